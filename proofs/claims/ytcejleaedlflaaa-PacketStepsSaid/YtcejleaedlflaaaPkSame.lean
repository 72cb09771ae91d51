/- Are two memories the same: walked. -/
import Derived.Test.YtcejleaedlflaaaPkC
import Derived.Deep.QuietTactic
import Derived.BigQuiet
namespace Go.Proofs.Ytcejleaedlflaaa
open Go.RowKit

theorem Row.at {w : World} {v : Value} {xs : List Int} (h : Row w v (xs.map (Value.int .u64))) : ∃ ao cap, v = .slice ao xs.length cap ∧ xs.length ≤ maxLen ∧ ∀ i, i < xs.length → ∃ g, ao = some ⟨g, 0, none⟩ ∧ w.cell? ⟨g, i, none⟩ = some (.int .u64 (xs[i]?.getD 0)) := by
  obtain ⟨ao, cap, rfl, hm, hc⟩ := h.ex
  rw [List.length_map] at hm
  refine ⟨ao, cap, by simp, hm, fun i hi => ?_⟩
  obtain ⟨g, e, _, h⟩ := hc i (.int .u64 (xs[i]'hi)) (by simp [List.getElem?_eq_getElem hi])
  exact ⟨g, e, by rw [h, List.getElem?_eq_getElem hi]; rfl⟩

set_option maxRecDepth 8000 in
theorem same_any {va vb : Value} {xs ys : List Int} (w : World) (ha : Row w va (xs.map (Value.int .u64))) (hb : Row w vb (ys.map (Value.int .u64))) :
    Calls Try.prog 13 #[va, vb] w fun e w' => e = .returned (.bool (decide (xs = ys))) ∧ Kept w w' := by
  obtain ⟨ao, ca, rfl, hma, hca⟩ := ha.at
  obtain ⟨bo, cb, rfl, hmb, hcb⟩ := hb.at
  have hka : (xs.length : Int) ≤ 9223372036854775807 := by unfold maxLen at hma; omega
  by_cases hl : xs.length = ys.length
  · have hlb : ((xs.length : Int) != (ys.length : Int)) = false := by simp; omega
    have HL : Hid (xs.length = ys.length) := hl
    have HA : Hid _ := hca
    have HB : Hid _ := hcb
    clear hl hca hcb ha hb
    go_enter Try.func13, Try.ntmps13
    go_wp2_with fail
    go_loopw [5] (fun iv wr => ∃ k : Nat, k ≤ xs.length ∧ iv = .int .i64 k ∧ (∀ j : Nat, j < k → xs[j]?.getD 0 = ys[j]?.getD 0) ∧ ∃ m, wr = w.drewN m) (fun iv _ => xs.length - (intOf iv).toNat)
    case atStart => exact ⟨0, by omega, rfl, fun j hj => by omega, 0, rfl⟩
    case round =>
      obtain ⟨k, hk, rfl, hin, m, rfl⟩ := hrel
      have HI : Hid _ := hin
      clear hin
      by_cases hlt : (k : Int) < xs.length
      · have hlt' : k < xs.length := by omega
        have hlt2 : (k : Int) < ys.length := by have := HL.out; omega
        have hk0 : (0 : Int) ≤ k := by omega
        obtain ⟨ga, rfl, hc1⟩ := HA.out k hlt'
        obtain ⟨gb, rfl, hc2⟩ := HB.out k (by have := HL.out; omega)
        obtain ⟨x, hx⟩ : ∃ x, xs[k]?.getD 0 = x := ⟨_, rfl⟩
        obtain ⟨y, hy⟩ : ∃ y, ys[k]?.getD 0 = y := ⟨_, rfl⟩
        rw [hx] at hc1
        rw [hy] at hc2
        have HX : Hid (xs[k]?.getD 0 = x) := hx
        have HY : Hid (ys[k]?.getD 0 = y) := hy
        clear hx hy
        by_cases hxy : x = y
        · have hd : (x != y) = false := by simpa using hxy
          have HXY : Hid (x = y) := hxy
          clear hxy
          go_wp2_with fail
          go_quiet (fail)
          go_wp2_with fail
          go_roundw
          case rel =>
            refine ⟨k + 1, by omega, by go_num, fun j hj => ?_, ?_⟩
            · by_cases e : j = k
              · subst e; rw [HX.out, HY.out]; exact HXY.out
              · exact HI.out j (by omega)
            · exact ⟨_, rfl⟩
          case measure => simp [intOf]; omega
        · have hd : (x != y) = true := by simpa using hxy
          have HXY : Hid (¬ x = y) := hxy
          clear hxy
          go_wp2_with fail
          go_quiet (fail)
          go_wp2_with fail
          go_ret
          refine ⟨ret_bool (decide_eq_false (fun e => HXY.out ?_)).symm, ⟨rfl, rfl, rfl, Nat.le_refl _, fun _ _ => rfl⟩⟩
          rw [← HX.out, ← HY.out, e]
      · go_wp2_with fail
        go_ret
        refine ⟨ret_bool (decide_eq_true ?_).symm, ⟨rfl, rfl, rfl, Nat.le_refl _, fun _ _ => rfl⟩⟩
        apply List.ext_getElem HL.out
        intro j h1 h2
        have := HI.out j (by omega)
        rw [List.getElem?_eq_getElem h1, List.getElem?_eq_getElem h2] at this
        exact this
  · have hlb : ((xs.length : Int) != (ys.length : Int)) = true := by simp; omega
    have HL : Hid (¬ xs.length = ys.length) := hl
    clear hl hca hcb ha hb
    go_enter Try.func13, Try.ntmps13
    go_wp2_with fail
    go_ret
    exact ⟨ret_bool (decide_eq_false (fun e => HL.out (by rw [e]))).symm, Below.refl _ _⟩

end Go.Proofs.Ytcejleaedlflaaa
