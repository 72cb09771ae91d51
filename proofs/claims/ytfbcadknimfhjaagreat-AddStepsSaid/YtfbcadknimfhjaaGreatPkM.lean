/- A slice of words that a law was handed. Nothing of one law. A slice of one-cell values that a law was handed. Nothing of one law. -/
import Derived.Test.YtfbcadknimfhjaaGreatPkRow
import Derived.Test.YtfbcadknimfhjaaGreatPkC
import Derived.OpenShut
namespace Go.Proofs.YtfbcadknimfhjaaGreat
open Go.ChangeShapes Go.WideShapes Go.ChangeAt Go.RowKit

theorem lt_of_cell {w : World} {a : Addr} {v : Value} (h : w.cell? a = some v) : a.block < w.heap.size := by
  unfold World.cell? at h
  split at h
  · next he => exact lt_of_block he
  · cases h

/-- Words that can be read. -/
def Words (w : World) (v : Value) (ts : List Int) : Prop :=
  (∀ x ∈ ts, U x) ∧ ((v = .slice none 0 0 ∧ ts = []) ∨ ∃ ad cap, v = .slice (some ad) ts.length cap ∧ ts.length ≤ cap ∧ cap ≤ maxLen ∧ ∀ i u, (ts.map (Value.int .u64))[i]? = some u → w.cell? (ad.add i) = some u)

theorem Words.kept {w w' : World} {v : Value} {ts : List Int} (h : Words w v ts) (k : Kept w w') : Words w' v ts := by
  obtain ⟨h0, h1 | ⟨ad, cap, h1, h2, h3, h4⟩⟩ := h
  · exact ⟨h0, .inl h1⟩
  · refine ⟨h0, .inr ⟨ad, cap, h1, h2, h3, fun i u hu => ?_⟩⟩
    have := h4 i u hu
    rw [Below.cell k (lt_of_cell this)]; exact this

theorem words_u64 {n : Int} (h : (Lit.int .u64 n).wf = true) : U n := by
  have := bounds_u64 h
  unfold U; omega

set_option maxRecDepth 100000 in
theorem open_words {H : Type} {enc : TypeId × Value → H} {W : World} {v : Value} {d : DataW H} {p : List MemPlace} {held : Bool} (hv : Value.okWide Tryz.prog W .any 0 41 v) (h : DataW.Trod enc Tryz.prog W 0 (fun _ => true) held 41 v d p) : ∃ ts, Words W v ts := by
  obtain ⟨a0, len, cap, rfl⟩ := okWide_slice Tryz.underlying41 hv
  obtain ⟨fuel, hf⟩ := h
  rcases open_ints Tryz.underlying41 Tryz.underlying25 (by kernel_rfl) hf with ⟨hcs, hx⟩ | ⟨a, len', cap', zs, hcs, _, hl, hm, hz, hx, hcell, hwz⟩
  · refine ⟨[], (fun x hx => by cases hx), .inl ⟨?_, rfl⟩⟩
    simpa [Value.cells] using hcs
  · simp [Value.cells] at hcs
    obtain ⟨rfl, rfl, rfl⟩ := hcs
    simp only [if_true] at hz
    have hln : (zs.take len).length = len := by simp; omega
    refine ⟨zs.take len, fun x hx => words_u64 (hwz x (List.mem_of_mem_take hx)), .inr ⟨a, cap, by rw [hln], by rw [hln]; exact hl, hm, fun i u hu => ?_⟩⟩
    rw [List.getElem?_map] at hu
    rcases Nat.lt_or_ge i len with hi | hi
    · have hi' : i < zs.length := by omega
      rw [List.getElem?_take, if_pos hi, List.getElem?_eq_getElem hi'] at hu
      simp at hu; subst hu
      rw [hcell i hi']
      simp [List.getD, List.getElem?_eq_getElem hi']
    · rw [List.getElem?_eq_none (by omega)] at hu; cases hu

end Go.Proofs.YtfbcadknimfhjaaGreat

namespace Go.Proofs.YtfbcadknimfhjaaGreat
open Go.ChangeShapes Go.WideShapes Go.ChangeAt Go.RowKit

/-- Values that can be read. -/
def Reads (w : World) (v : Value) (xs : List Value) : Prop :=
  (v = .slice none 0 0 ∧ xs = []) ∨ ∃ ad cap, v = .slice (some ad) xs.length cap ∧ xs.length ≤ cap ∧ cap ≤ maxLen ∧ ∀ i u, xs[i]? = some u → w.cell? (ad.add i) = some u

theorem Reads.kept {w w' : World} {v : Value} {xs : List Value} (h : Reads w v xs) (k : Kept w w') : Reads w' v xs := by
  obtain h1 | ⟨ad, cap, h1, h2, h3, h4⟩ := h
  · exact .inl h1
  · refine .inr ⟨ad, cap, h1, h2, h3, fun i u hu => ?_⟩
    have := h4 i u hu
    rw [Below.cell k (lt_of_cell this)]; exact this

theorem Reads.get {w : World} {v : Value} {xs : List Value} (h : Reads w v xs) {i : Nat} (hi : i < xs.length) : ∃ ad cap, v = .slice (some ad) xs.length cap ∧ xs.length ≤ cap ∧ w.cell? (ad.add i) = xs[i]? := by
  obtain ⟨_, rfl⟩ | ⟨ad, cap, h1, h2, h3, h4⟩ := h
  · simp at hi
  · exact ⟨ad, cap, h1, h2, by rw [h4 i xs[i] (List.getElem?_eq_getElem hi), List.getElem?_eq_getElem hi]⟩

theorem Reads.len_le {w : World} {v : Value} {xs : List Value} (h : Reads w v xs) : xs.length ≤ maxLen := by
  obtain ⟨_, rfl⟩ | ⟨ad, cap, h1, h2, h3, h4⟩ := h
  · simp
  · omega

theorem Reads.form {w : World} {v : Value} {xs : List Value} (h : Reads w v xs) : ∃ ao cap, v = .slice ao xs.length cap := by
  obtain ⟨rfl, rfl⟩ | ⟨ad, cap, h1, h2, h3, h4⟩ := h
  · exact ⟨none, 0, rfl⟩
  · exact ⟨_, _, h1⟩

theorem Words.reads {w : World} {v : Value} {ts : List Int} (h : Words w v ts) : Reads w v (ts.map (Value.int .u64)) := by
  obtain ⟨_, ⟨h1, rfl⟩ | ⟨ad, cap, h1, h2, h3, h4⟩⟩ := h
  · exact .inl ⟨h1, rfl⟩
  · exact .inr ⟨ad, cap, by rw [List.length_map]; exact h1, by rw [List.length_map]; exact h2, h3, h4⟩

theorem words_u8 {n : Int} (h : (Lit.int .u8 n).wf = true) : 0 ≤ n ∧ n ≤ 255 := by
  simp [Lit.wf, IntKind.min, IntKind.max, IntKind.signed, IntKind.bits] at h
  omega

end Go.Proofs.YtfbcadknimfhjaaGreat
