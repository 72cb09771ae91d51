/- Sizes and configurations, walked. -/
import Derived.Test.YtchlbdfapgeebaaRows
import Derived.Test.YtchlbdfapgeebaaMem
import Derived.Deep.LoopGhost
namespace Go.Proofs.Ytchlbdfapgeebaa
open Go.RowKit

/-- How many slots a class has. -/
def slotsI (k : Int) : Int := if k = 0 then 1 else if k = 1 then 2 else if k = 2 then 4 else if k = 3 then 8 else if k = 4 then 16 else 0

def clampI (lo n hi : Int) : Int := min (max lo n) hi

theorem is_any (n : Int) (w : World) :
    Calls Try.prog 48 #[.int .i64 n] w fun e w' => e = .returned (.bool (decide (0 ≤ n) && decide (n < 5))) ∧ w = w' := by
  go_enter Try.func48, Try.ntmps48
  go_wp2
  all_goals go_ret
  · exact ⟨by simp [*], rfl⟩
  · exact ⟨ret_bool (by simp; intro; omega), rfl⟩

theorem bound_any (n : Int) (w : World) :
    Calls Try.prog 47 #[.int .i64 n] w fun e w' => e = .returned (.int .i64 (clampI 0 n 12)) ∧ w = w' := by
  go_enter Try.func47, Try.ntmps47
  go_wp2
  all_goals go_ret
  all_goals exact ⟨ret_int (by unfold clampI; split at * <;> omega), rfl⟩

theorem slots_no (n : Int) (w : World) (h : ¬ (0 ≤ n ∧ n < 5)) :
    Calls Try.prog 24 #[.int .i64 n] w fun e w' => e = .returned (.int .i64 0) ∧ w = w' := by
  have hb : (decide (0 ≤ n) && decide (n < 5)) = false := by
    rw [Bool.and_eq_false_iff]; simp; omega
  go_enter Try.func24, Try.ntmps24
  go_wp2_with (go_at_call 48; refine (is_any _ _).mono ?_; rintro e w' ⟨rfl, rfl⟩; rw [hb])
  go_ret
  exact ⟨rfl, rfl⟩

theorem slots_yes (n : Int) (w : World) (h0 : 0 ≤ n) (h1 : n < 5) :
    Calls Try.prog 24 #[.int .i64 n] w fun e w' => e = .returned (.int .i64 (slotsI n)) ∧ w = w' := by
  have : n = 0 ∨ n = 1 ∨ n = 2 ∨ n = 3 ∨ n = 4 := by omega
  rcases this with rfl | rfl | rfl | rfl | rfl
  all_goals
    go_enter Try.func24, Try.ntmps24
    go_wp2
    go_ret
    exact ⟨rfl, rfl⟩

theorem slots_any (n : Int) (w : World) :
    Calls Try.prog 24 #[.int .i64 n] w fun e w' => e = .returned (.int .i64 (slotsI n)) ∧ w = w' := by
  by_cases h : 0 ≤ n ∧ n < 5
  · exact slots_yes n w h.1 h.2
  · have : slotsI n = 0 := by unfold slotsI; repeat (rw [if_neg (by omega)])
    rw [this]; exact slots_no n w h

theorem index5_0 (a b c d e : Int) (w : World) : (Instr.index 22 (.agg #[.int .i64 a, .int .i64 b, .int .i64 c, .int .i64 d, .int .i64 e]) (.int .i64 0)).run Try.prog w = .ok (.int .i64 a) w := by kernel_rfl

theorem index5_1 (a b c d e : Int) (w : World) : (Instr.index 22 (.agg #[.int .i64 a, .int .i64 b, .int .i64 c, .int .i64 d, .int .i64 e]) (.int .i64 1)).run Try.prog w = .ok (.int .i64 b) w := by kernel_rfl

theorem index5_2 (a b c d e : Int) (w : World) : (Instr.index 22 (.agg #[.int .i64 a, .int .i64 b, .int .i64 c, .int .i64 d, .int .i64 e]) (.int .i64 2)).run Try.prog w = .ok (.int .i64 c) w := by kernel_rfl

theorem index5_3 (a b c d e : Int) (w : World) : (Instr.index 22 (.agg #[.int .i64 a, .int .i64 b, .int .i64 c, .int .i64 d, .int .i64 e]) (.int .i64 3)).run Try.prog w = .ok (.int .i64 d) w := by kernel_rfl

theorem index5_4 (a b c d e : Int) (w : World) : (Instr.index 22 (.agg #[.int .i64 a, .int .i64 b, .int .i64 c, .int .i64 d, .int .i64 e]) (.int .i64 4)).run Try.prog w = .ok (.int .i64 e) w := by kernel_rfl

theorem index5 (a b c d e : Int) (k : Nat) (hk : k < 5) (w : World) :
    (Instr.index 22 (.agg #[.int .i64 a, .int .i64 b, .int .i64 c, .int .i64 d, .int .i64 e]) (.int .i64 k)).run Try.prog w = .ok (.int .i64 ([a, b, c, d, e][k]?.getD 0)) w := by
  have : k = 0 ∨ k = 1 ∨ k = 2 ∨ k = 3 ∨ k = 4 := by omega
  rcases this with rfl | rfl | rfl | rfl | rfl
  · exact index5_0 a b c d e w
  · exact index5_1 a b c d e w
  · exact index5_2 a b c d e w
  · exact index5_3 a b c d e w
  · exact index5_4 a b c d e w

/-- A configuration's numbers. -/
structure Cfg where
  c0 : Int
  c1 : Int
  c2 : Int
  c3 : Int
  c4 : Int
  mks : Int
  mus : Int
  dq : Int
  ch : Int
  bu : Int
  ro : Int
  sw : Int

def inB (n lo hi : Int) : Bool := decide (lo ≤ n) && decide (n ≤ hi)

theorem inB_iff (n lo hi : Int) : inB n lo hi = true ↔ lo ≤ n ∧ n ≤ hi := by simp [inB]
theorem inB_not (n lo hi : Int) : inB n lo hi = false ↔ ¬ (lo ≤ n ∧ n ≤ hi) := by rw [← inB_iff]; simp

/-- How many cells, each number cut to what may be. -/
def nodesI (c : Cfg) : Int := clampI 0 c.c0 12 + clampI 0 c.c1 12 + clampI 0 c.c2 12 + clampI 0 c.c3 12 + clampI 0 c.c4 12

/-- A configuration that may be. -/
def Good (c : Cfg) : Prop := (0 ≤ c.c0 ∧ c.c0 ≤ 12) ∧ (0 ≤ c.c1 ∧ c.c1 ≤ 12) ∧ (0 ≤ c.c2 ∧ c.c2 ≤ 12) ∧ (0 ≤ c.c3 ∧ c.c3 ≤ 12) ∧ (0 ≤ c.c4 ∧ c.c4 ≤ 12) ∧
  (1 ≤ c.mks ∧ c.mks ≤ 4) ∧ (1 ≤ c.mus ∧ c.mus ≤ 4) ∧ (2 ≤ c.dq ∧ c.dq ≤ 8) ∧ (1 ≤ c.ch ∧ c.ch ≤ 16) ∧ (1 ≤ c.bu ∧ c.bu ≤ 4) ∧ (1 ≤ c.ro ∧ c.ro ≤ 8) ∧ (1 ≤ c.sw ∧ c.sw ≤ 16) ∧ 0 < c.c0 + c.c1 + c.c2 + c.c3 + c.c4

instance (c : Cfg) : Decidable (Good c) := by unfold Good; infer_instance

def errI (c : Cfg) : Int := if Good c then 0 else 21

theorem in_any (n lo hi : Int) (w : World) :
    Calls Try.prog 46 #[.int .i64 n, .int .i64 lo, .int .i64 hi] w fun e w' => e = .returned (.bool (inB n lo hi)) ∧ w = w' := by
  go_enter Try.func46, Try.ntmps46
  go_wp2
  all_goals go_ret
  all_goals exact ⟨ret_bool (by unfold inB; simp; omega), rfl⟩

theorem in_is {n lo hi : Int} {b : Bool} (h : inB n lo hi = b) (w : World) :
    Calls Try.prog 46 #[.int .i64 n, .int .i64 lo, .int .i64 hi] w fun e w' => e = .returned (.bool b) ∧ w = w' := h ▸ in_any n lo hi w

theorem nodes_any (a b c d e : Int) (w : World) :
    Calls Try.prog 23 #[.agg #[.int .i64 a, .int .i64 b, .int .i64 c, .int .i64 d, .int .i64 e]] w fun r w' =>
      r = .returned (.int .i64 (clampI 0 a 12 + clampI 0 b 12 + clampI 0 c 12 + clampI 0 d 12 + clampI 0 e 12)) ∧ Kept w w' := by
  have i0 : ∀ W, (Instr.index 22 (.agg #[.int .i64 a, .int .i64 b, .int .i64 c, .int .i64 d, .int .i64 e]) (.int .i64 0)).run Try.prog W = .ok (.int .i64 a) W := fun W => index5 a b c d e 0 (by omega) W
  have i1 : ∀ W, (Instr.index 22 (.agg #[.int .i64 a, .int .i64 b, .int .i64 c, .int .i64 d, .int .i64 e]) (.int .i64 1)).run Try.prog W = .ok (.int .i64 b) W := fun W => index5 a b c d e 1 (by omega) W
  have i2 : ∀ W, (Instr.index 22 (.agg #[.int .i64 a, .int .i64 b, .int .i64 c, .int .i64 d, .int .i64 e]) (.int .i64 2)).run Try.prog W = .ok (.int .i64 c) W := fun W => index5 a b c d e 2 (by omega) W
  have i3 : ∀ W, (Instr.index 22 (.agg #[.int .i64 a, .int .i64 b, .int .i64 c, .int .i64 d, .int .i64 e]) (.int .i64 3)).run Try.prog W = .ok (.int .i64 d) W := fun W => index5 a b c d e 3 (by omega) W
  have i4 : ∀ W, (Instr.index 22 (.agg #[.int .i64 a, .int .i64 b, .int .i64 c, .int .i64 d, .int .i64 e]) (.int .i64 4)).run Try.prog W = .ok (.int .i64 e) W := fun W => index5 a b c d e 4 (by omega) W
  have b0 : 0 ≤ clampI 0 a 12 ∧ clampI 0 a 12 ≤ 12 := by unfold clampI; omega
  have b1 : 0 ≤ clampI 0 b 12 ∧ clampI 0 b 12 ≤ 12 := by unfold clampI; omega
  have b2 : 0 ≤ clampI 0 c 12 ∧ clampI 0 c 12 ≤ 12 := by unfold clampI; omega
  have b3 : 0 ≤ clampI 0 d 12 ∧ clampI 0 d 12 ≤ 12 := by unfold clampI; omega
  have b4 : 0 ≤ clampI 0 e 12 ∧ clampI 0 e 12 ≤ 12 := by unfold clampI; omega
  obtain ⟨b0, b0'⟩ := b0
  obtain ⟨b1, b1'⟩ := b1
  obtain ⟨b2, b2'⟩ := b2
  obtain ⟨b3, b3'⟩ := b3
  obtain ⟨b4, b4'⟩ := b4
  go_enter Try.func23, Try.ntmps23
  go_wp2_with fail
  refine wp_loop_rounds 6 ?_
  iterate 6 (rw [rounds_succ]; go_wp2_with (go_at_call 47; refine (bound_any _ _).mono ?_; rintro r w1 ⟨rfl, rfl⟩))
  go_ret
  exact ⟨rfl, (Below.refl _ _).alloc (Nat.le_refl _) _⟩

/-- The list of cells, in what may be, so far. -/
def InTo (cs : List Int) (k : Nat) : Prop := ∀ j, j < k → inB (cs[j]?.getD 0) 0 12 = true

theorem InTo.five {a b c d e : Int} (h : InTo [a, b, c, d, e] 5) : (0 ≤ a ∧ a ≤ 12) ∧ (0 ≤ b ∧ b ≤ 12) ∧ (0 ≤ c ∧ c ≤ 12) ∧ (0 ≤ d ∧ d ≤ 12) ∧ (0 ≤ e ∧ e ≤ 12) :=
  ⟨(inB_iff _ _ _).1 (h 0 (by omega)), (inB_iff _ _ _).1 (h 1 (by omega)), (inB_iff _ _ _).1 (h 2 (by omega)), (inB_iff _ _ _).1 (h 3 (by omega)), (inB_iff _ _ _).1 (h 4 (by omega))⟩

theorem InTo.succ {cs : List Int} {k : Nat} (h : InTo cs k) (hk : inB (cs[k]?.getD 0) 0 12 = true) : InTo cs (k + 1) := by
  intro j hj
  by_cases e : j = k
  · subst e; exact hk
  · exact h j (by omega)

theorem errI_bad {c : Cfg} {k : Nat} (hk : k < 5) (h : inB (([c.c0, c.c1, c.c2, c.c3, c.c4] : List Int)[k]?.getD 0) 0 12 = false) : errI c = 21 := by
  unfold errI
  rw [if_neg]
  intro hg
  rw [inB_not] at h
  obtain ⟨g0, g1, g2, g3, g4, _⟩ := hg
  have : k = 0 ∨ k = 1 ∨ k = 2 ∨ k = 3 ∨ k = 4 := by omega
  rcases this with rfl | rfl | rfl | rfl | rfl
  · exact h g0
  · exact h g1
  · exact h g2
  · exact h g3
  · exact h g4

set_option maxHeartbeats 1600000 in
theorem check_any (c : Cfg) (w : World) :
    Calls Try.prog 22 #[.agg #[.int .i64 c.c0, .int .i64 c.c1, .int .i64 c.c2, .int .i64 c.c3, .int .i64 c.c4, .int .i64 c.mks, .int .i64 c.mus, .int .i64 c.dq, .int .i64 c.ch, .int .i64 c.bu, .int .i64 c.ro, .int .i64 c.sw]] w fun r w' => r = .returned (.int .i64 (errI c)) ∧ Kept w w' := by
  generalize hcs : [c.c0, c.c1, c.c2, c.c3, c.c4] = cs
  have hidx : ∀ (k : Nat), k < 5 → ∀ W, (Instr.index 22 (.agg #[.int .i64 c.c0, .int .i64 c.c1, .int .i64 c.c2, .int .i64 c.c3, .int .i64 c.c4]) (.int .i64 k)).run Try.prog W = .ok (.int .i64 (cs[k]?.getD 0)) W := fun k hk W => by rw [← hcs]; exact index5 _ _ _ _ _ k hk W
  go_enter Try.func22, Try.ntmps22
  go_wp2_with fail
  go_loop [8] (fun i => ∃ k : Nat, k ≤ 5 ∧ i = .int .i64 k ∧ InTo cs k) (fun i => 5 - (intOf i).toNat)
  case atStart => exact ⟨0, by omega, rfl, fun j hj => by omega⟩
  case round =>
    obtain ⟨k, hk, rfl, hin⟩ := hrel
    by_cases hlt : (k : Int) < 5
    · have hi := hidx k (by omega)
      clear hidx
      go_wp2_with (go_at_call 46; refine (in_any _ _ _ _).mono ?_; rintro r w1 ⟨rfl, rfl⟩)
      · go_ret
        exact ⟨ret_int (errI_bad (k := k) (by omega) (by rw [hcs]; simpa using ‹(!inB (cs[k]?.getD 0) 0 12) = true›)).symm, (Below.refl _ _).alloc (Nat.le_refl _) _⟩
      · refine ⟨⟨k + 1, by omega, by go_num, hin.succ (by simpa using ‹(!inB (cs[k]?.getD 0) 0 12) = false›)⟩, by simp [intOf]; omega⟩
    · obtain rfl : k = 5 := by omega
      rw [← hcs] at hin
      have H5 := hin
      clear hidx hin hcs hlt
      by_cases g0 : inB c.mks 1 4 = false
      · go_wp2_with (first | (go_at_call 46; refine (in_is (by assumption) _).mono ?_; rintro r w1 ⟨rfl, rfl⟩) | (go_at_call 23; refine (nodes_any _ _ _ _ _ _).mono ?_; rintro r w1 ⟨rfl, hk1⟩))
        go_ret
        exact ⟨ret_int (by unfold errI; rw [if_neg]; intro hg; rw [inB_not] at g0; unfold Good at hg; omega), (Below.refl _ _).alloc (Nat.le_refl _) _⟩
      replace g0 : inB c.mks 1 4 = true := by simpa using g0
      by_cases g1 : inB c.mus 1 4 = false
      · go_wp2_with (first | (go_at_call 46; refine (in_is (by assumption) _).mono ?_; rintro r w1 ⟨rfl, rfl⟩) | (go_at_call 23; refine (nodes_any _ _ _ _ _ _).mono ?_; rintro r w1 ⟨rfl, hk1⟩))
        go_ret
        exact ⟨ret_int (by unfold errI; rw [if_neg]; intro hg; rw [inB_not] at g1; unfold Good at hg; omega), (Below.refl _ _).alloc (Nat.le_refl _) _⟩
      replace g1 : inB c.mus 1 4 = true := by simpa using g1
      by_cases g2 : inB c.dq 2 8 = false
      · go_wp2_with (first | (go_at_call 46; refine (in_is (by assumption) _).mono ?_; rintro r w1 ⟨rfl, rfl⟩) | (go_at_call 23; refine (nodes_any _ _ _ _ _ _).mono ?_; rintro r w1 ⟨rfl, hk1⟩))
        go_ret
        exact ⟨ret_int (by unfold errI; rw [if_neg]; intro hg; rw [inB_not] at g2; unfold Good at hg; omega), (Below.refl _ _).alloc (Nat.le_refl _) _⟩
      replace g2 : inB c.dq 2 8 = true := by simpa using g2
      by_cases g3 : inB c.ch 1 16 = false
      · go_wp2_with (first | (go_at_call 46; refine (in_is (by assumption) _).mono ?_; rintro r w1 ⟨rfl, rfl⟩) | (go_at_call 23; refine (nodes_any _ _ _ _ _ _).mono ?_; rintro r w1 ⟨rfl, hk1⟩))
        go_ret
        exact ⟨ret_int (by unfold errI; rw [if_neg]; intro hg; rw [inB_not] at g3; unfold Good at hg; omega), (Below.refl _ _).alloc (Nat.le_refl _) _⟩
      replace g3 : inB c.ch 1 16 = true := by simpa using g3
      by_cases g4 : inB c.bu 1 4 = false
      · go_wp2_with (first | (go_at_call 46; refine (in_is (by assumption) _).mono ?_; rintro r w1 ⟨rfl, rfl⟩) | (go_at_call 23; refine (nodes_any _ _ _ _ _ _).mono ?_; rintro r w1 ⟨rfl, hk1⟩))
        go_ret
        exact ⟨ret_int (by unfold errI; rw [if_neg]; intro hg; rw [inB_not] at g4; unfold Good at hg; omega), (Below.refl _ _).alloc (Nat.le_refl _) _⟩
      replace g4 : inB c.bu 1 4 = true := by simpa using g4
      by_cases g5 : inB c.ro 1 8 = false
      · go_wp2_with (first | (go_at_call 46; refine (in_is (by assumption) _).mono ?_; rintro r w1 ⟨rfl, rfl⟩) | (go_at_call 23; refine (nodes_any _ _ _ _ _ _).mono ?_; rintro r w1 ⟨rfl, hk1⟩))
        go_ret
        exact ⟨ret_int (by unfold errI; rw [if_neg]; intro hg; rw [inB_not] at g5; unfold Good at hg; omega), (Below.refl _ _).alloc (Nat.le_refl _) _⟩
      replace g5 : inB c.ro 1 8 = true := by simpa using g5
      by_cases g6 : inB c.sw 1 16 = false
      · go_wp2_with (first | (go_at_call 46; refine (in_is (by assumption) _).mono ?_; rintro r w1 ⟨rfl, rfl⟩) | (go_at_call 23; refine (nodes_any _ _ _ _ _ _).mono ?_; rintro r w1 ⟨rfl, hk1⟩))
        go_ret
        exact ⟨ret_int (by unfold errI; rw [if_neg]; intro hg; rw [inB_not] at g6; unfold Good at hg; omega), (Below.refl _ _).alloc (Nat.le_refl _) _⟩
      replace g6 : inB c.sw 1 16 = true := by simpa using g6
      have h5 := H5.five
      have a0 := (inB_iff _ _ _).1 g0
      have a1 := (inB_iff _ _ _).1 g1
      have a2 := (inB_iff _ _ _).1 g2
      have a3 := (inB_iff _ _ _).1 g3
      have a4 := (inB_iff _ _ _).1 g4
      have a5 := (inB_iff _ _ _).1 g5
      have a6 := (inB_iff _ _ _).1 g6
      have hn : clampI 0 c.c0 12 + clampI 0 c.c1 12 + clampI 0 c.c2 12 + clampI 0 c.c3 12 + clampI 0 c.c4 12 = c.c0 + c.c1 + c.c2 + c.c3 + c.c4 := by unfold clampI; omega
      have A : Hid (Good c ↔ 0 < c.c0 + c.c1 + c.c2 + c.c3 + c.c4) := by unfold Hid Good; omega
      by_cases hz : clampI 0 c.c0 12 + clampI 0 c.c1 12 + clampI 0 c.c2 12 + clampI 0 c.c3 12 + clampI 0 c.c4 12 = 0
      · have hzb : (clampI 0 c.c0 12 + clampI 0 c.c1 12 + clampI 0 c.c2 12 + clampI 0 c.c3 12 + clampI 0 c.c4 12 == 0) = true := by simpa using hz
        clear hn a0 a1 a2 a3 a4 a5 a6 h5
        go_wp2_with (first | (go_at_call 46; refine (in_is (by assumption) _).mono ?_; rintro r w1 ⟨rfl, rfl⟩) | (go_at_call 23; refine (nodes_any _ _ _ _ _ _).mono ?_; rintro r w1 ⟨rfl, hk1⟩))
        go_ret
        exact ⟨ret_int (by unfold errI; rw [if_neg]; intro hg; have := A.out.1 hg; have := H5.five; unfold clampI at hz; omega), ((Below.refl _ _).alloc (Nat.le_refl _) _).trans (hk1.mono (by simp))⟩
      · have hzb : (clampI 0 c.c0 12 + clampI 0 c.c1 12 + clampI 0 c.c2 12 + clampI 0 c.c3 12 + clampI 0 c.c4 12 == 0) = false := by simpa using hz
        clear hn a0 a1 a2 a3 a4 a5 a6 h5
        go_wp2_with (first | (go_at_call 46; refine (in_is (by assumption) _).mono ?_; rintro r w1 ⟨rfl, rfl⟩) | (go_at_call 23; refine (nodes_any _ _ _ _ _ _).mono ?_; rintro r w1 ⟨rfl, hk1⟩))
        go_ret
        exact ⟨ret_int (by unfold errI; rw [if_pos]; refine A.out.2 ?_; have := H5.five; unfold clampI at hz; omega), ((Below.refl _ _).alloc (Nat.le_refl _) _).trans (hk1.mono (by simp))⟩

end Go.Proofs.Ytchlbdfapgeebaa
