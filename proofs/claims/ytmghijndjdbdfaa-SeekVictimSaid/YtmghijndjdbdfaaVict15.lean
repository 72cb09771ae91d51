/- From whom a marker steals is the document's: walked. -/
import Derived.Test.YtmghijndjdbdfaaAw15
namespace Go.Proofs.Ytmghijndjdbdfaa
open Go.RowKit

theorem vict_is {all t u : Int} (_h : 2 ≤ all) (t0 : -all < t) (t1 : t < all) (hu : (t + all).tmod all = u) : u = if t < 0 then t + all else t := by
  subst hu
  rw [Int.tmod_eq_emod_of_nonneg (by omega)]
  split
  · exact Int.emod_eq_of_lt (by omega) (by omega)
  · rw [Int.add_emod_right]; exact Int.emod_eq_of_lt (by omega) (by omega)

theorem vict_next {all u : Int} (u0 : 0 ≤ u) (u1 : u < all) : (u + 1).tmod all = if u + 1 = all then 0 else u + 1 := by
  rw [Int.tmod_eq_emod_of_nonneg (by omega)]
  split
  · next h => rw [h]; exact Int.emod_self
  · exact Int.emod_eq_of_lt (by omega) (by omega)

set_option maxRecDepth 8000 in
theorem refVict_any (all i draw : Int) (w : World) (h : all ≤ 1000000) :
    Calls Try.prog 16 #[.int .i64 all, .int .i64 i, .int .i64 draw] w fun r w' => r = .returned (.int .i64 (victim all i draw)) ∧ w = w' := by
  unfold victim
  by_cases h2 : all < 2
  · rw [if_pos h2]
    go_enter Try.func16, Try.ntmps16
    go_wp2_with fail
    go_ret
    exact ⟨rfl, rfl⟩
  · rw [if_neg h2]
    obtain ⟨t, u, ht, hu, t0, t1, u0, u1⟩ := vict_parts (all := all) (draw := draw) (by omega)
    have hv := vict_is (by omega) t0 t1 hu
    rw [ht, hu]
    have haz : ¬ all = 0 := by omega
    have y1 : IntKind.i64.wrap t = t := IntWalk.i64_in _ (by omega)
    have y4 : IntKind.i64.wrap (u + 1) = u + 1 := IntWalk.i64_in _ (by omega)
    have hua : ¬ u = all := by omega
    have huab : (u == all) = false := by simpa using hua
    have y2 : t < 0 → IntKind.i64.wrap (t + all) = u := fun h => by
      rw [if_pos h] at hv
      rw [← hv]; exact IntWalk.i64_in _ (by omega)
    have y0 : ¬ t < 0 → t = u := fun h => by
      rw [if_neg h] at hv
      exact hv.symm
    clear hv hu
    by_cases hi : u = i
    · rw [if_pos hi, vict_next u0 u1]
      subst hi
      by_cases h1 : u + 1 = all
      · rw [if_pos h1]
        have hb1 : (u + 1 == all) = true := by simpa using h1
        clear h1
        by_cases hn : t < 0
        · have y2 := y2 hn
          clear y0
          go_enter Try.func16, Try.ntmps16
          go_wp2_with fail
          go_ret
          exact ⟨rfl, rfl⟩
        · have e := y0 hn
          subst e
          clear y0 y2
          go_enter Try.func16, Try.ntmps16
          go_wp2_with fail
          go_ret
          exact ⟨rfl, rfl⟩
      · rw [if_neg h1]
        have hb1 : (u + 1 == all) = false := by simpa using h1
        by_cases hn : t < 0
        · have y2 := y2 hn
          clear y0
          go_enter Try.func16, Try.ntmps16
          go_wp2_with fail
          go_ret
          exact ⟨rfl, rfl⟩
        · have e := y0 hn
          subst e
          clear y0 y2
          go_enter Try.func16, Try.ntmps16
          go_wp2_with fail
          go_ret
          exact ⟨rfl, rfl⟩
    · rw [if_neg hi]
      have hib : (u == i) = false := by simpa using hi
      by_cases hn : t < 0
      · have y2 := y2 hn
        clear y0
        go_enter Try.func16, Try.ntmps16
        go_wp2_with fail
        go_ret
        exact ⟨rfl, rfl⟩
      · have e := y0 hn
        subst e
        clear y0 y2
        go_enter Try.func16, Try.ntmps16
        go_wp2_with fail
        go_ret
        exact ⟨rfl, rfl⟩

set_option maxRecDepth 8000 in
theorem seekVictim_any (all i draw : Int) (w : World) (_h0 : -9223372036854775808 ≤ all ∧ all ≤ 9223372036854775807) (_h1 : -9223372036854775808 ≤ i ∧ i ≤ 9223372036854775807) (_h2 : -9223372036854775808 ≤ draw ∧ draw ≤ 9223372036854775807) :
    Calls Try.prog 4 #[.int .i64 all, .int .i64 i, .int .i64 draw] w fun e w' => e = .returned (.bool true) ∧ Kept w w' := by
  by_cases hbig : all > 1000000
  · go_enter Try.func4, Try.ntmps4
    go_wp2_with fail
    refine (awake15_any w).mono ?_; rintro e w1 ⟨rfl, hk1⟩
    go_wp2_with fail
    go_ret
    exact ⟨rfl, hk1⟩
  · obtain ⟨v, hv⟩ : ∃ v : Int, victim all i draw = v := ⟨_, rfl⟩
    have V := fun W => vict_any all i draw W (by omega)
    have R := fun W => refVict_any all i draw W (by omega)
    rw [hv] at V R
    by_cases h2 : all < 2
    · have hv1 : v = -1 := by rw [← hv]; unfold victim; rw [if_pos h2]
      subst hv1
      clear hv
      go_enter Try.func4, Try.ntmps4
      go_wp2_with fail
      refine (awake15_any w).mono ?_; rintro e w1 ⟨rfl, hk1⟩
      go_wp2_with fail
      refine (V w1).mono ?_; rintro e wx ⟨rfl, rfl⟩
      go_wp2_with fail
      refine (R w1).mono ?_; rintro e wx ⟨rfl, rfl⟩
      go_wp2_with fail
      go_ret
      exact ⟨rfl, hk1⟩
    · have hvv : 0 ≤ v ∧ v < all ∧ v ≠ i := by
        obtain ⟨t, u, ht, hu, t0, t1, u0, u1⟩ := vict_parts (all := all) (draw := draw) (by omega)
        rw [← hv]
        unfold victim
        rw [if_neg h2, ht, hu]
        by_cases hi : u = i
        · rw [if_pos hi, vict_next u0 u1]
          split <;> omega
        · rw [if_neg hi]; omega
      obtain ⟨hv0, hv1, hvi⟩ := hvv
      have hib : (v == i) = false := by simpa using hvi
      have hib2 : (v != i) = true := by simpa using hvi
      have h2d : decide (all < 2) = false := decide_eq_false h2
      clear hv
      go_enter Try.func4, Try.ntmps4
      go_wp2_with fail
      refine (awake15_any w).mono ?_; rintro e w1 ⟨rfl, hk1⟩
      go_wp2_with fail
      refine (V w1).mono ?_; rintro e wx ⟨rfl, rfl⟩
      go_wp2_with fail
      refine (R w1).mono ?_; rintro e wx ⟨rfl, rfl⟩
      go_wp2_with fail
      go_ret
      exact ⟨rfl, hk1⟩

end Go.Proofs.Ytmghijndjdbdfaa
