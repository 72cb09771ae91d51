/- A configuration's map is made: walked. -/
import Derived.Test.YtchlbdfapgeebaaMap
import Derived.Deep.AppendLies
import Derived.LoopTactic
namespace Go.Proofs.Ytchlbdfapgeebaa
open Go.RowKit

/-- A node's class, by the sums. -/
def classI (c : Cfg) (v : Int) : Int := if v < 1 then -1 else if v ≤ c.c0 then 0 else if v - c.c0 ≤ c.c1 then 1 else if v - c.c0 - c.c1 ≤ c.c2 then 2 else if v - c.c0 - c.c1 - c.c2 ≤ c.c3 then 3 else if v - c.c0 - c.c1 - c.c2 - c.c3 ≤ c.c4 then 4 else -1

theorem clsI_eq {c : Cfg} (h : Good c) (v : Int) : clsI c v = classI c v := by
  have hn := nN_eq h
  obtain ⟨h0, h1, h2, h3, h4, _⟩ := h
  unfold clsI
  split
  · next hv =>
    simp only [clsL, List.getElem?_append, List.getElem?_replicate, List.length_replicate]
    unfold classI
    repeat' split
    all_goals first | rfl | omega
  · next hv =>
    unfold classI
    repeat' split
    all_goals first | rfl | omega

theorem class_any (c : Cfg) (v : Int) (w : World) (hg : Good c) (h63 : v ≤ 9223372036854775807) :
    Calls Try.prog 25 #[.agg #[.int .i64 c.c0, .int .i64 c.c1, .int .i64 c.c2, .int .i64 c.c3, .int .i64 c.c4], .int .i64 v] w fun e w' => e = .returned (.int .i64 (clsI c v)) ∧ Kept w w' := by
  rw [clsI_eq hg]
  have i0 : ∀ W, (Instr.index 22 (.agg #[.int .i64 c.c0, .int .i64 c.c1, .int .i64 c.c2, .int .i64 c.c3, .int .i64 c.c4]) (.int .i64 0)).run Try.prog W = .ok (.int .i64 c.c0) W := fun W => index5_0 _ _ _ _ _ W
  have i1 : ∀ W, (Instr.index 22 (.agg #[.int .i64 c.c0, .int .i64 c.c1, .int .i64 c.c2, .int .i64 c.c3, .int .i64 c.c4]) (.int .i64 1)).run Try.prog W = .ok (.int .i64 c.c1) W := fun W => index5_1 _ _ _ _ _ W
  have i2 : ∀ W, (Instr.index 22 (.agg #[.int .i64 c.c0, .int .i64 c.c1, .int .i64 c.c2, .int .i64 c.c3, .int .i64 c.c4]) (.int .i64 2)).run Try.prog W = .ok (.int .i64 c.c2) W := fun W => index5_2 _ _ _ _ _ W
  have i3 : ∀ W, (Instr.index 22 (.agg #[.int .i64 c.c0, .int .i64 c.c1, .int .i64 c.c2, .int .i64 c.c3, .int .i64 c.c4]) (.int .i64 3)).run Try.prog W = .ok (.int .i64 c.c3) W := fun W => index5_3 _ _ _ _ _ W
  have i4 : ∀ W, (Instr.index 22 (.agg #[.int .i64 c.c0, .int .i64 c.c1, .int .i64 c.c2, .int .i64 c.c3, .int .i64 c.c4]) (.int .i64 4)).run Try.prog W = .ok (.int .i64 c.c4) W := fun W => index5_4 _ _ _ _ _ W
  obtain ⟨⟨h0, h0'⟩, ⟨h1, h1'⟩, ⟨h2, h2'⟩, ⟨h3, h3'⟩, ⟨h4, h4'⟩, _⟩ := hg
  have B : ∀ n W, 0 ≤ n → n ≤ 12 → Calls Try.prog 47 #[.int .i64 n] W fun e w' => e = .returned (.int .i64 n) ∧ W = w' := by
    intro n W hn hn'
    have := bound_any n W
    rwa [show clampI 0 n 12 = n from by unfold clampI; omega] at this
  go_enter Try.func25, Try.ntmps25
  by_cases hv : v < 1
  · go_wp2_with fail
    go_ret
    exact ⟨ret_int (by unfold classI; rw [if_pos hv]), (Below.refl _ _).alloc (Nat.le_refl _) _⟩
  have hv1 : 1 ≤ v := by omega
  by_cases a0 : v ≤ c.c0
  · go_wp2_with fail
    refine wp_loop_rounds 6 ?_
    iterate 1 (rw [rounds_succ]; go_wp2_with (go_at_call 47; refine (B _ _ (by assumption) (by assumption)).mono ?_; rintro r w1 ⟨rfl, rfl⟩))
    go_ret
    exact ⟨ret_int (by unfold classI; repeat' split
                       all_goals first | rfl | omega), (Below.refl _ _).alloc (Nat.le_refl _) _⟩
  by_cases a1 : v - c.c0 ≤ c.c1
  · go_wp2_with fail
    refine wp_loop_rounds 6 ?_
    iterate 2 (rw [rounds_succ]; go_wp2_with (go_at_call 47; refine (B _ _ (by assumption) (by assumption)).mono ?_; rintro r w1 ⟨rfl, rfl⟩))
    go_ret
    exact ⟨ret_int (by unfold classI; repeat' split
                       all_goals first | rfl | omega), (Below.refl _ _).alloc (Nat.le_refl _) _⟩
  by_cases a2 : v - c.c0 - c.c1 ≤ c.c2
  · go_wp2_with fail
    refine wp_loop_rounds 6 ?_
    iterate 3 (rw [rounds_succ]; go_wp2_with (go_at_call 47; refine (B _ _ (by assumption) (by assumption)).mono ?_; rintro r w1 ⟨rfl, rfl⟩))
    go_ret
    exact ⟨ret_int (by unfold classI; repeat' split
                       all_goals first | rfl | omega), (Below.refl _ _).alloc (Nat.le_refl _) _⟩
  by_cases a3 : v - c.c0 - c.c1 - c.c2 ≤ c.c3
  · go_wp2_with fail
    refine wp_loop_rounds 6 ?_
    iterate 4 (rw [rounds_succ]; go_wp2_with (go_at_call 47; refine (B _ _ (by assumption) (by assumption)).mono ?_; rintro r w1 ⟨rfl, rfl⟩))
    go_ret
    exact ⟨ret_int (by unfold classI; repeat' split
                       all_goals first | rfl | omega), (Below.refl _ _).alloc (Nat.le_refl _) _⟩
  by_cases a4 : v - c.c0 - c.c1 - c.c2 - c.c3 ≤ c.c4
  · go_wp2_with fail
    refine wp_loop_rounds 6 ?_
    iterate 5 (rw [rounds_succ]; go_wp2_with (go_at_call 47; refine (B _ _ (by assumption) (by assumption)).mono ?_; rintro r w1 ⟨rfl, rfl⟩))
    go_ret
    exact ⟨ret_int (by unfold classI; repeat' split
                       all_goals first | rfl | omega), (Below.refl _ _).alloc (Nat.le_refl _) _⟩
  go_wp2_with fail
  refine wp_loop_rounds 6 ?_
  iterate 6 (rw [rounds_succ]; go_wp2_with (go_at_call 47; refine (B _ _ (by assumption) (by assumption)).mono ?_; rintro r w1 ⟨rfl, rfl⟩))
  go_ret
  exact ⟨ret_int (by unfold classI; repeat' split
                     all_goals first | rfl | omega), (Below.refl _ _).alloc (Nat.le_refl _) _⟩

end Go.Proofs.Ytchlbdfapgeebaa
