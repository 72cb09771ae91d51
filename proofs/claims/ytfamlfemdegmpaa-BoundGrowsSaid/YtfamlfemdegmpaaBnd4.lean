/- The bounds of a configuration that may be, walked. -/
import Derived.Test.YtfamlfemdegmpaaBnd3
import Derived.Deep.RegionHeld3
namespace Go.Proofs.Ytfamlfemdegmpaa
open Go.RowKit

def sumI (l : List Int) : Int := l.foldr (· + ·) 0

theorem sumI_append (a b : List Int) : sumI (a ++ b) = sumI a + sumI b := by
  induction a with
  | nil => simp [sumI]
  | cons x l ih => simp only [sumI, List.cons_append, List.foldr_cons] at *; omega

theorem sumI_take_succ (l : List Int) (k : Nat) (h : k < l.length) : sumI (l.take (k + 1)) = sumI (l.take k) + l[k]?.getD 0 := by
  rw [List.take_add_one, sumI_append, List.getElem?_eq_getElem h]; simp [sumI]

theorem sumI_bound (l : List Int) (B : Int) (h : ∀ x ∈ l, 0 ≤ x ∧ x ≤ B) : 0 ≤ sumI l ∧ sumI l ≤ B * l.length := by
  induction l with
  | nil => simp [sumI]
  | cons x l ih =>
    have := ih (fun y hy => h y (by simp [hy]))
    have := h x (by simp)
    simp only [sumI, List.foldr_cons, List.length_cons] at *
    push_cast
    rw [Int.mul_add]; omega

/-- How many tasks nodes of so many slots have. -/
def mostI (l : List Int) (ch : Int) : Int := sumI (l.map fun s => countI s ch)

theorem countI_bound (s ch : Int) : 1 ≤ countI s ch ∧ countI s ch ≤ 1000 := by
  unfold countI
  have hS : 0 ≤ sI s ∧ sI s ≤ 1000 := by unfold sI clampI; omega
  have hC : 1 ≤ clampI 1 ch 1000 ∧ clampI 1 ch 1000 ≤ 1000 := by unfold clampI; omega
  generalize sI s = S at *
  generalize clampI 1 ch 1000 = C at *
  split
  · omega
  · refine ⟨(Int.le_ediv_iff_mul_le (by omega)).2 (by omega), ?_⟩
    have : (S + C - 1) / C < 1001 := by
      rw [Int.ediv_lt_iff_lt_mul (by omega)]
      have := Int.mul_le_mul_of_nonneg_left hC.1 (show (0 : Int) ≤ 1000 by omega)
      omega
    omega

theorem most_any (l : List Int) (ch : Int) (v : Value) (w : World) (hl : l.length ≤ 100) (hr : Row w v (l.map (Value.int .i64))) :
    Calls Try.prog 19 #[v, .int .i64 ch] w fun e w' => e = .returned (.int .i64 (mostI l ch)) ∧ Kept w w' := by
  obtain ⟨ao, cap, rfl, hm, hc⟩ := hr.ex
  rw [List.length_map] at *
  have H : Hid (∀ i, i < l.length → ∃ g, ao = some ⟨g, 0, none⟩ ∧ g < w.heap.size ∧ w.cell? ⟨g, i, none⟩ = some (.int .i64 (l[i]?.getD 0))) := fun i hi => by
    refine hc i _ ?_
    simp [List.getElem?_eq_getElem hi]
  clear hc hm hr
  go_enter Try.func19, Try.ntmps19
  go_wp2_with fail
  go_loopw [5, 10] (fun t i wr => ∃ k : Nat, k ≤ l.length ∧ i = .int .i64 k ∧ t = .int .i64 (sumI ((l.map fun s => countI s ch).take k)) ∧ Kept w wr) (fun _ i _ => l.length - (intOf i).toNat)
  case atStart => exact ⟨0, by omega, rfl, rfl, Below.refl _ _⟩
  case round =>
    obtain ⟨k, hk, rfl, rfl, hkw⟩ := hrel
    by_cases hlt : (k : Int) < l.length
    · obtain ⟨g, rfl, hg, hcell⟩ := H.out k (by omega)
      have hcell' : wr.cell? ⟨g, k, none⟩ = some (.int .i64 (l[k]?.getD 0)) := by rw [Below.cell hkw hg]; exact hcell
      have hb := sumI_bound ((l.map fun s => countI s ch).take k) 1000 (fun x hx => by
        have := List.mem_of_mem_take hx
        simp only [List.mem_map] at this
        obtain ⟨s, _, rfl⟩ := this
        have := countI_bound s ch
        omega)
      have hb2 : ((l.map fun s => countI s ch).take k).length ≤ 100 := by simp; omega
      obtain ⟨hb0, hb1⟩ := hb
      have hb3 : sumI ((l.map fun s => countI s ch).take k) ≤ 100000 := by omega
      have hcb := countI_bound (l[k]?.getD 0) ch
      obtain ⟨hcb0, hcb1⟩ := hcb
      clear hcell hb1 hb2
      have S1 : Hid (sumI ((l.map fun s => countI s ch).take (k + 1)) = sumI ((l.map fun s => countI s ch).take k) + countI (l[k]?.getD 0) ch) := by
        unfold Hid
        rw [sumI_take_succ _ _ (by simp; omega)]
        simp [List.getElem?_eq_getElem (show k < l.length by omega)]
      generalize hT : (l.map fun s => countI s ch) = T at *
      generalize sumI (T.take k) = tk at *
      go_wp2_with fail
      refine (count_any _ _ _).mono ?_; rintro e w1 ⟨rfl, hk1⟩
      go_wp2_with fail
      refine ⟨⟨k + 1, by omega, by go_num, by rw [S1.out], hkw.trans' hk1⟩, by simp [intOf]; omega⟩
    · obtain rfl : k = l.length := by omega
      go_wp2_with fail
      go_ret
      exact ⟨ret_int (by unfold mostI; rw [List.take_of_length_le (by simp)]), hkw⟩

end Go.Proofs.Ytfamlfemdegmpaa
