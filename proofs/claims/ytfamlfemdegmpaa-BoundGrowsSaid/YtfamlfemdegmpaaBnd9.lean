/- The law on the bounds' numbers, walked. -/
import Derived.Test.YtfamlfemdegmpaaBnd8
namespace Go.Proofs.Ytfamlfemdegmpaa
open Go.RowKit

theorem awake_any (w : World) : Calls Try.prog 5 #[] w fun r w' => r = .returned (.bool true) ∧ Kept w w' := by
  go_enter Try.func5, Try.ntmps5
  go_wp2_with fail
  refine (bTasks_any ⟨1, 0, 0, 0, 0, 1, 1, 2, 1, 1, 1, 1⟩ _).mono ?_; rintro e w1 ⟨rfl, hk1⟩
  rw [show bTasksI ⟨1, 0, 0, 0, 0, 1, 1, 2, 1, 1, 1, 1⟩ = 1 from by decide +kernel]
  have hb : Blk w1 w.heap.size 24 [.int .i64 1, .int .i64 0, .int .i64 0, .int .i64 0, .int .i64 0, .int .i64 1, .int .i64 1, .int .i64 2, .int .i64 1, .int .i64 1, .int .i64 1, .int .i64 1] := hk1.blk (Blk.new w _ _)
  have c0 := hb.cell 0
  have c1 := hb.cell 1
  have c2 := hb.cell 2
  have c3 := hb.cell 3
  have c4 := hb.cell 4
  have c5 := hb.cell 5
  have c6 := hb.cell 6
  have c7 := hb.cell 7
  have c8 := hb.cell 8
  have c9 := hb.cell 9
  have c10 := hb.cell 10
  have c11 := hb.cell 11
  have hK : Kept w w1 := ((Below.refl _ _).alloc (Nat.le_refl _) _).trans (hk1.mono (by simp))
  have hlt := hb.lt
  go_wp2_with fail
  refine (bSlots_any ⟨1, 0, 0, 0, 0, 1, 1, 2, 1, 1, 1, 1⟩ _).mono ?_; rintro e w2 ⟨rfl, hk2⟩
  rw [show bSlotsI ⟨1, 0, 0, 0, 0, 1, 1, 2, 1, 1, 1, 1⟩ = 1 from by decide +kernel]
  replace hb := hb.kept hk2
  replace hK := hK.trans' hk2
  clear hk2 c0 c1 c2 c3 c4 c5 c6 c7 c8 c9 c10 c11
  have c0 := hb.cell 0
  have c1 := hb.cell 1
  have c2 := hb.cell 2
  have c3 := hb.cell 3
  have c4 := hb.cell 4
  have c5 := hb.cell 5
  have c6 := hb.cell 6
  have c7 := hb.cell 7
  have c8 := hb.cell 8
  have c9 := hb.cell 9
  have c10 := hb.cell 10
  have c11 := hb.cell 11
  go_wp2_with fail
  refine (bEvents_any ⟨1, 0, 0, 0, 0, 1, 1, 2, 1, 1, 1, 1⟩ _).mono ?_; rintro e w2 ⟨rfl, hk2⟩
  rw [show bEventsI ⟨1, 0, 0, 0, 0, 1, 1, 2, 1, 1, 1, 1⟩ = 108 from by decide +kernel]
  replace hb := hb.kept hk2
  replace hK := hK.trans' hk2
  clear hk2 c0 c1 c2 c3 c4 c5 c6 c7 c8 c9 c10 c11
  have c0 := hb.cell 0
  have c1 := hb.cell 1
  have c2 := hb.cell 2
  have c3 := hb.cell 3
  have c4 := hb.cell 4
  have c5 := hb.cell 5
  have c6 := hb.cell 6
  have c7 := hb.cell 7
  have c8 := hb.cell 8
  have c9 := hb.cell 9
  have c10 := hb.cell 10
  have c11 := hb.cell 11
  go_wp2_with fail
  refine (bWindows_any ⟨1, 0, 0, 0, 0, 1, 1, 2, 1, 1, 1, 1⟩ _).mono ?_; rintro e w2 ⟨rfl, hk2⟩
  rw [show bWindowsI ⟨1, 0, 0, 0, 0, 1, 1, 2, 1, 1, 1, 1⟩ = 7056 from by decide +kernel]
  replace hb := hb.kept hk2
  replace hK := hK.trans' hk2
  clear hk2 c0 c1 c2 c3 c4 c5 c6 c7 c8 c9 c10 c11
  have c0 := hb.cell 0
  have c1 := hb.cell 1
  have c2 := hb.cell 2
  have c3 := hb.cell 3
  have c4 := hb.cell 4
  have c5 := hb.cell 5
  have c6 := hb.cell 6
  have c7 := hb.cell 7
  have c8 := hb.cell 8
  have c9 := hb.cell 9
  have c10 := hb.cell 10
  have c11 := hb.cell 11
  go_wp2_with fail
  refine (bSteps_any ⟨1, 0, 0, 0, 0, 1, 1, 2, 1, 1, 1, 1⟩ _ _).mono ?_; rintro e w2 ⟨rfl, hk2⟩
  rw [show bWindowsI ⟨1, 0, 0, 0, 0, 1, 1, 2, 1, 1, 1, 1⟩ * wideI 3 = 21168 from by decide +kernel]
  go_wp2_with fail
  go_ret
  exact ⟨rfl, hK.trans' hk2⟩

theorem ref_is {c : Cfg} {n : Int} (h : errI c = n) (w : World) :
    Calls Try.prog 6 #[.agg #[.int .i64 c.c0, .int .i64 c.c1, .int .i64 c.c2, .int .i64 c.c3, .int .i64 c.c4, .int .i64 c.mks, .int .i64 c.mus, .int .i64 c.dq, .int .i64 c.ch, .int .i64 c.bu, .int .i64 c.ro, .int .i64 c.sw]] w fun r w' => r = .returned (.int .i64 n) ∧ Kept w w' := h ▸ refcheck_any c w

theorem numbers_no (c : Cfg) (n : Int) (w : World) (hg : ¬ Good c) :
    Calls Try.prog 3 #[.agg #[.int .i64 c.c0, .int .i64 c.c1, .int .i64 c.c2, .int .i64 c.c3, .int .i64 c.c4, .int .i64 c.mks, .int .i64 c.mus, .int .i64 c.dq, .int .i64 c.ch, .int .i64 c.bu, .int .i64 c.ro, .int .i64 c.sw], .int .i64 n] w fun r w' => r = .returned (.bool true) ∧ Kept w w' := by
  have he : errI c = 21 := errI_no hg
  have z1 : Hid (bTasksI c = 0) := if_neg hg
  have z2 : Hid (bSlotsI c = 0) := if_neg hg
  have z3 : Hid (bEventsI c = 0) := if_neg hg
  have z4 : Hid (bWindowsI c = 0) := if_neg hg
  have z5 : Hid (bWindowsI c * wideI n = 0) := by unfold Hid; rw [z4.out, Int.zero_mul]
  have HE : Hid (errI c = 21) := he
  clear hg he
  go_enter Try.func3, Try.ntmps3
  go_wp2_with fail
  refine (awake_any _).mono ?_; rintro e w1 ⟨rfl, hk1⟩
  have hb : Blk w1 w.heap.size 24 [.int .i64 c.c0, .int .i64 c.c1, .int .i64 c.c2, .int .i64 c.c3, .int .i64 c.c4, .int .i64 c.mks, .int .i64 c.mus, .int .i64 c.dq, .int .i64 c.ch, .int .i64 c.bu, .int .i64 c.ro, .int .i64 c.sw] := hk1.blk (Blk.new w _ _)
  have hK : Kept w w1 := ((Below.refl _ _).alloc (Nat.le_refl _) _).trans (hk1.mono (by simp))
  have hlt := hb.lt
  have c0 := hb.cell 0
  have c1 := hb.cell 1
  have c2 := hb.cell 2
  have c3 := hb.cell 3
  have c4 := hb.cell 4
  have c5 := hb.cell 5
  have c6 := hb.cell 6
  have c7 := hb.cell 7
  have c8 := hb.cell 8
  have c9 := hb.cell 9
  have c10 := hb.cell 10
  have c11 := hb.cell 11
  go_wp2_with fail
  all_goals refine (model_any c _).mono ?_; rintro e w2 ⟨rfl, hk2⟩
  all_goals go_wp2_with fail
  all_goals refine (ref_is HE.out _).mono ?_; rintro e w3 ⟨rfl, hk3⟩
  all_goals replace hk2 := hk2.trans' hk3
  all_goals clear hk3
  all_goals replace hb := hb.kept hk2
  all_goals replace hK := hK.trans' hk2
  all_goals clear hk2 c0 c1 c2 c3 c4 c5 c6 c7 c8 c9 c10 c11
  all_goals have c0 := hb.cell 0
  all_goals have c1 := hb.cell 1
  all_goals have c2 := hb.cell 2
  all_goals have c3 := hb.cell 3
  all_goals have c4 := hb.cell 4
  all_goals have c5 := hb.cell 5
  all_goals have c6 := hb.cell 6
  all_goals have c7 := hb.cell 7
  all_goals have c8 := hb.cell 8
  all_goals have c9 := hb.cell 9
  all_goals have c10 := hb.cell 10
  all_goals have c11 := hb.cell 11
  all_goals go_wp2_with fail
  all_goals refine (bTasks_any c _).mono ?_; rintro e w2 ⟨rfl, hk2⟩
  all_goals rw [z1.out]
  all_goals replace hb := hb.kept hk2
  all_goals replace hK := hK.trans' hk2
  all_goals clear hk2 c0 c1 c2 c3 c4 c5 c6 c7 c8 c9 c10 c11
  all_goals have c0 := hb.cell 0
  all_goals have c1 := hb.cell 1
  all_goals have c2 := hb.cell 2
  all_goals have c3 := hb.cell 3
  all_goals have c4 := hb.cell 4
  all_goals have c5 := hb.cell 5
  all_goals have c6 := hb.cell 6
  all_goals have c7 := hb.cell 7
  all_goals have c8 := hb.cell 8
  all_goals have c9 := hb.cell 9
  all_goals have c10 := hb.cell 10
  all_goals have c11 := hb.cell 11
  all_goals go_wp2_with fail
  all_goals refine (bSlots_any c _).mono ?_; rintro e w2 ⟨rfl, hk2⟩
  all_goals rw [z2.out]
  all_goals replace hb := hb.kept hk2
  all_goals replace hK := hK.trans' hk2
  all_goals clear hk2 c0 c1 c2 c3 c4 c5 c6 c7 c8 c9 c10 c11
  all_goals have c0 := hb.cell 0
  all_goals have c1 := hb.cell 1
  all_goals have c2 := hb.cell 2
  all_goals have c3 := hb.cell 3
  all_goals have c4 := hb.cell 4
  all_goals have c5 := hb.cell 5
  all_goals have c6 := hb.cell 6
  all_goals have c7 := hb.cell 7
  all_goals have c8 := hb.cell 8
  all_goals have c9 := hb.cell 9
  all_goals have c10 := hb.cell 10
  all_goals have c11 := hb.cell 11
  all_goals go_wp2_with fail
  all_goals refine (bEvents_any c _).mono ?_; rintro e w2 ⟨rfl, hk2⟩
  all_goals rw [z3.out]
  all_goals replace hb := hb.kept hk2
  all_goals replace hK := hK.trans' hk2
  all_goals clear hk2 c0 c1 c2 c3 c4 c5 c6 c7 c8 c9 c10 c11
  all_goals have c0 := hb.cell 0
  all_goals have c1 := hb.cell 1
  all_goals have c2 := hb.cell 2
  all_goals have c3 := hb.cell 3
  all_goals have c4 := hb.cell 4
  all_goals have c5 := hb.cell 5
  all_goals have c6 := hb.cell 6
  all_goals have c7 := hb.cell 7
  all_goals have c8 := hb.cell 8
  all_goals have c9 := hb.cell 9
  all_goals have c10 := hb.cell 10
  all_goals have c11 := hb.cell 11
  all_goals go_wp2_with fail
  all_goals refine (bWindows_any c _).mono ?_; rintro e w2 ⟨rfl, hk2⟩
  all_goals rw [z4.out]
  all_goals replace hb := hb.kept hk2
  all_goals replace hK := hK.trans' hk2
  all_goals clear hk2 c0 c1 c2 c3 c4 c5 c6 c7 c8 c9 c10 c11
  all_goals have c0 := hb.cell 0
  all_goals have c1 := hb.cell 1
  all_goals have c2 := hb.cell 2
  all_goals have c3 := hb.cell 3
  all_goals have c4 := hb.cell 4
  all_goals have c5 := hb.cell 5
  all_goals have c6 := hb.cell 6
  all_goals have c7 := hb.cell 7
  all_goals have c8 := hb.cell 8
  all_goals have c9 := hb.cell 9
  all_goals have c10 := hb.cell 10
  all_goals have c11 := hb.cell 11
  all_goals go_wp2_with fail
  all_goals refine (bSteps_any c _ _).mono ?_; rintro e w2 ⟨rfl, hk2⟩
  all_goals rw [z5.out]
  all_goals go_wp2_with fail
  all_goals go_ret
  all_goals exact ⟨rfl, hK.trans' hk2⟩

theorem bT_is {c : Cfg} {n : Int} (h : bTasksI c = n) (w : World) : Calls Try.prog 8 #[.agg #[.int .i64 c.c0, .int .i64 c.c1, .int .i64 c.c2, .int .i64 c.c3, .int .i64 c.c4, .int .i64 c.mks, .int .i64 c.mus, .int .i64 c.dq, .int .i64 c.ch, .int .i64 c.bu, .int .i64 c.ro, .int .i64 c.sw]] w fun e w' => e = .returned (.int .i64 n) ∧ Kept w w' := h ▸ bTasks_any c w
theorem bS_is {c : Cfg} {n : Int} (h : bSlotsI c = n) (w : World) : Calls Try.prog 9 #[.agg #[.int .i64 c.c0, .int .i64 c.c1, .int .i64 c.c2, .int .i64 c.c3, .int .i64 c.c4, .int .i64 c.mks, .int .i64 c.mus, .int .i64 c.dq, .int .i64 c.ch, .int .i64 c.bu, .int .i64 c.ro, .int .i64 c.sw]] w fun e w' => e = .returned (.int .i64 n) ∧ Kept w w' := h ▸ bSlots_any c w
theorem bE_is {c : Cfg} {n : Int} (h : bEventsI c = n) (w : World) : Calls Try.prog 10 #[.agg #[.int .i64 c.c0, .int .i64 c.c1, .int .i64 c.c2, .int .i64 c.c3, .int .i64 c.c4, .int .i64 c.mks, .int .i64 c.mus, .int .i64 c.dq, .int .i64 c.ch, .int .i64 c.bu, .int .i64 c.ro, .int .i64 c.sw]] w fun e w' => e = .returned (.int .i64 n) ∧ Kept w w' := h ▸ bEvents_any c w
theorem bW_is {c : Cfg} {n : Int} (h : bWindowsI c = n) (w : World) : Calls Try.prog 11 #[.agg #[.int .i64 c.c0, .int .i64 c.c1, .int .i64 c.c2, .int .i64 c.c3, .int .i64 c.c4, .int .i64 c.mks, .int .i64 c.mus, .int .i64 c.dq, .int .i64 c.ch, .int .i64 c.bu, .int .i64 c.ro, .int .i64 c.sw]] w fun e w' => e = .returned (.int .i64 n) ∧ Kept w w' := h ▸ bWindows_any c w
theorem bSt_is {c : Cfg} {k n : Int} (h : bWindowsI c * wideI k = n) (w : World) : Calls Try.prog 12 #[.agg #[.int .i64 c.c0, .int .i64 c.c1, .int .i64 c.c2, .int .i64 c.c3, .int .i64 c.c4, .int .i64 c.mks, .int .i64 c.mus, .int .i64 c.dq, .int .i64 c.ch, .int .i64 c.bu, .int .i64 c.ro, .int .i64 c.sw], .int .i64 k] w fun e w' => e = .returned (.int .i64 n) ∧ Kept w w' := h ▸ bSteps_any c k w

set_option maxHeartbeats 1600000 in
theorem numbers_yes (c : Cfg) (n : Int) (w : World) (hg : Good c) :
    Calls Try.prog 3 #[.agg #[.int .i64 c.c0, .int .i64 c.c1, .int .i64 c.c2, .int .i64 c.c3, .int .i64 c.c4, .int .i64 c.mks, .int .i64 c.mus, .int .i64 c.dq, .int .i64 c.ch, .int .i64 c.bu, .int .i64 c.ro, .int .i64 c.sw], .int .i64 n] w fun r w' => r = .returned (.bool true) ∧ Kept w w' := by
  have z1 : Hid (bTasksI c = tasksI c) := if_pos hg
  have z2 : Hid (bSlotsI c = slotsSumI c) := if_pos hg
  have z3 : Hid (bEventsI c = eventsI c) := if_pos hg
  have z4 : Hid (bWindowsI c = windowsI c) := if_pos hg
  have HE : Hid (errI c = 0) := errI_yes hg
  have e0 := (events_bound hg).1
  have e1 := (events_bound hg).2
  have HG : Hid (Good c) := hg
  have HX : Hid (windowsI c = 64 * (eventsI c + 2) + 16) := rfl
  have w0 : 0 ≤ windowsI c ∧ windowsI c ≤ 500000000 := by unfold windowsI; omega
  obtain ⟨w0, w1⟩ := w0
  have hp : ∀ m : Int, 1 ≤ m → m ≤ 1000 → 0 ≤ windowsI c * m ∧ windowsI c * m ≤ 500000000000 := fun m h1 h2 => by
    refine ⟨Int.mul_nonneg w0 (by omega), ?_⟩
    have := Int.mul_le_mul w1 h2 (by omega) (by omega)
    omega
  have q1 : n < 1 → wideI n = 1 := fun h => by unfold wideI; omega
  have q2 : 1000 < n → wideI n = 1000 := fun h => by unfold wideI; omega
  have q3 : 1 ≤ n → n ≤ 1000 → wideI n = n := fun h h' => by unfold wideI; omega
  clear hg
  rcases (by omega : n < 1 ∨ 1000 < n ∨ (1 ≤ n ∧ n ≤ 1000)) with h | h | ⟨h, h'⟩
  · have hpm := hp (1) (by omega) (by omega)
    obtain ⟨hp0, hp1⟩ := hpm
    have z5 : Hid (bWindowsI c * wideI n = windowsI c) := by unfold Hid; rw [z4.out, q1 h, Int.mul_one]
    clear q1 q2 q3 hp
    go_enter Try.func3, Try.ntmps3
    go_wp2_with fail
    refine (awake_any _).mono ?_; rintro e w1 ⟨rfl, hk1⟩
    have hb : Blk w1 w.heap.size 24 [.int .i64 c.c0, .int .i64 c.c1, .int .i64 c.c2, .int .i64 c.c3, .int .i64 c.c4, .int .i64 c.mks, .int .i64 c.mus, .int .i64 c.dq, .int .i64 c.ch, .int .i64 c.bu, .int .i64 c.ro, .int .i64 c.sw] := hk1.blk (Blk.new w _ _)
    have hB : Kept w w1 := ((Below.refl _ _).alloc (Nat.le_refl _) _).trans (hk1.mono (by simp))
    have c0 := hb.cell 0
    have c1 := hb.cell 1
    have c2 := hb.cell 2
    have c3 := hb.cell 3
    have c4 := hb.cell 4
    have c5 := hb.cell 5
    have c6 := hb.cell 6
    have c7 := hb.cell 7
    have c8 := hb.cell 8
    have c9 := hb.cell 9
    have c10 := hb.cell 10
    have c11 := hb.cell 11
    go_wp2_with fail
    refine (model_any c _).mono ?_; rintro e w2 ⟨rfl, hk2⟩
    go_wp2_with fail
    refine (ref_is HE.out _).mono ?_; rintro e w3 ⟨rfl, hk3⟩
    replace hk2 := hk2.trans' hk3
    clear hk3
    replace hb := hb.kept hk2
    replace hB := hB.trans' hk2
    clear hk2 c0 c1 c2 c3 c4 c5 c6 c7 c8 c9 c10 c11
    have c0 := hb.cell 0
    have c1 := hb.cell 1
    have c2 := hb.cell 2
    have c3 := hb.cell 3
    have c4 := hb.cell 4
    have c5 := hb.cell 5
    have c6 := hb.cell 6
    have c7 := hb.cell 7
    have c8 := hb.cell 8
    have c9 := hb.cell 9
    have c10 := hb.cell 10
    have c11 := hb.cell 11
    go_wp2_with fail
    refine (model_any c _).mono ?_; rintro e w2 ⟨rfl, hk2⟩
    go_wp2_with fail
    refine (refwindows_any c _ HG.out).mono ?_; rintro e w3 ⟨rfl, hk3⟩
    replace hk2 := hk2.trans' hk3
    clear hk3
    replace hb := hb.kept hk2
    replace hB := hB.trans' hk2
    clear hk2 c0 c1 c2 c3 c4 c5 c6 c7 c8 c9 c10 c11
    have c0 := hb.cell 0
    have c1 := hb.cell 1
    have c2 := hb.cell 2
    have c3 := hb.cell 3
    have c4 := hb.cell 4
    have c5 := hb.cell 5
    have c6 := hb.cell 6
    have c7 := hb.cell 7
    have c8 := hb.cell 8
    have c9 := hb.cell 9
    have c10 := hb.cell 10
    have c11 := hb.cell 11
    have hlt := hb.lt
    go_wp2_with fail
    have x1 : IntKind.i64.wrap (eventsI c + 2) = eventsI c + 2 := IntWalk.i64_in _ (by omega)
    have x2 : IntKind.i64.wrap (64 * (eventsI c + 2)) = 64 * (eventsI c + 2) := IntWalk.i64_in _ (by omega)
    have x3 : IntKind.i64.wrap (64 * (eventsI c + 2) + 16) = windowsI c := by rw [IntWalk.i64_in _ (by omega), HX.out]
    have x4 : IntKind.i64.wrap (windowsI c) = windowsI c := IntWalk.i64_in _ (by omega)
    have hK : Kept w3 w3.drew := (Below.refl _ _).drew
    go_region_held3 (fun w' => w'.cell? ⟨w.heap.size, 0, none⟩ = some (.int .i64 c.c0) ∧ w'.cell? ⟨w.heap.size, 1, none⟩ = some (.int .i64 c.c1) ∧ w'.cell? ⟨w.heap.size, 2, none⟩ = some (.int .i64 c.c2) ∧ w'.cell? ⟨w.heap.size, 3, none⟩ = some (.int .i64 c.c3) ∧ w'.cell? ⟨w.heap.size, 4, none⟩ = some (.int .i64 c.c4) ∧ w'.cell? ⟨w.heap.size, 5, none⟩ = some (.int .i64 c.mks) ∧ w'.cell? ⟨w.heap.size, 6, none⟩ = some (.int .i64 c.mus) ∧ w'.cell? ⟨w.heap.size, 7, none⟩ = some (.int .i64 c.dq) ∧ w'.cell? ⟨w.heap.size, 8, none⟩ = some (.int .i64 c.ch) ∧ w'.cell? ⟨w.heap.size, 9, none⟩ = some (.int .i64 c.bu) ∧ w'.cell? ⟨w.heap.size, 10, none⟩ = some (.int .i64 c.ro) ∧ w'.cell? ⟨w.heap.size, 11, none⟩ = some (.int .i64 c.sw))
      (first | exact ⟨c0, c1, c2, c3, c4, c5, c6, c7, c8, c9, c10, c11⟩ | (have hcc := fun i => Below.cell hK (p := ⟨w.heap.size, i, none⟩) hlt; exact ⟨(hcc 0).trans c0, (hcc 1).trans c1, (hcc 2).trans c2, (hcc 3).trans c3, (hcc 4).trans c4, (hcc 5).trans c5, (hcc 6).trans c6, (hcc 7).trans c7, (hcc 8).trans c8, (hcc 9).trans c9, (hcc 10).trans c10, (hcc 11).trans c11⟩))
      (first
        | (go_at_call 8; refine (bT_is z1.out _).mono ?_; rintro e w2 ⟨rfl, hk2⟩; replace hK := Kept.trans' hK hk2; clear hk2)
        | (go_at_call 9; refine (bS_is z2.out _).mono ?_; rintro e w2 ⟨rfl, hk2⟩; replace hK := Kept.trans' hK hk2; clear hk2)
        | (go_at_call 10; refine (bE_is z3.out _).mono ?_; rintro e w2 ⟨rfl, hk2⟩; replace hK := Kept.trans' hK hk2; clear hk2)
        | (go_at_call 11; refine (bW_is z4.out _).mono ?_; rintro e w2 ⟨rfl, hk2⟩; replace hK := Kept.trans' hK hk2; clear hk2)
        | (go_at_call 12; refine (bSt_is z5.out _).mono ?_; rintro e w2 ⟨rfl, hk2⟩; replace hK := Kept.trans' hK hk2; clear hk2)
        | (go_at_call 7; refine (model_any c _).mono ?_; rintro e w2 ⟨rfl, hk2⟩; replace hK := Kept.trans' hK hk2; clear hk2)
        | (go_at_call 14; refine (reftasks_any c _ HG.out).mono ?_; rintro e w2 ⟨rfl, hk2⟩; replace hK := Kept.trans' hK hk2; clear hk2)
        | (go_at_call 15; refine (refslotsum_any c _ HG.out).mono ?_; rintro e w2 ⟨rfl, hk2⟩; replace hK := Kept.trans' hK hk2; clear hk2))
    go_wp2_with fail
    go_ret
    exact ⟨rfl, hB.trans' hK⟩
  · have hpm := hp (1000) (by omega) (by omega)
    obtain ⟨hp0, hp1⟩ := hpm
    have z5 : Hid (bWindowsI c * wideI n = windowsI c * 1000) := by unfold Hid; rw [z4.out, q2 h]
    clear q1 q2 q3 hp
    go_enter Try.func3, Try.ntmps3
    go_wp2_with fail
    refine (awake_any _).mono ?_; rintro e w1 ⟨rfl, hk1⟩
    have hb : Blk w1 w.heap.size 24 [.int .i64 c.c0, .int .i64 c.c1, .int .i64 c.c2, .int .i64 c.c3, .int .i64 c.c4, .int .i64 c.mks, .int .i64 c.mus, .int .i64 c.dq, .int .i64 c.ch, .int .i64 c.bu, .int .i64 c.ro, .int .i64 c.sw] := hk1.blk (Blk.new w _ _)
    have hB : Kept w w1 := ((Below.refl _ _).alloc (Nat.le_refl _) _).trans (hk1.mono (by simp))
    have c0 := hb.cell 0
    have c1 := hb.cell 1
    have c2 := hb.cell 2
    have c3 := hb.cell 3
    have c4 := hb.cell 4
    have c5 := hb.cell 5
    have c6 := hb.cell 6
    have c7 := hb.cell 7
    have c8 := hb.cell 8
    have c9 := hb.cell 9
    have c10 := hb.cell 10
    have c11 := hb.cell 11
    go_wp2_with fail
    refine (model_any c _).mono ?_; rintro e w2 ⟨rfl, hk2⟩
    go_wp2_with fail
    refine (ref_is HE.out _).mono ?_; rintro e w3 ⟨rfl, hk3⟩
    replace hk2 := hk2.trans' hk3
    clear hk3
    replace hb := hb.kept hk2
    replace hB := hB.trans' hk2
    clear hk2 c0 c1 c2 c3 c4 c5 c6 c7 c8 c9 c10 c11
    have c0 := hb.cell 0
    have c1 := hb.cell 1
    have c2 := hb.cell 2
    have c3 := hb.cell 3
    have c4 := hb.cell 4
    have c5 := hb.cell 5
    have c6 := hb.cell 6
    have c7 := hb.cell 7
    have c8 := hb.cell 8
    have c9 := hb.cell 9
    have c10 := hb.cell 10
    have c11 := hb.cell 11
    go_wp2_with fail
    refine (model_any c _).mono ?_; rintro e w2 ⟨rfl, hk2⟩
    go_wp2_with fail
    refine (refwindows_any c _ HG.out).mono ?_; rintro e w3 ⟨rfl, hk3⟩
    replace hk2 := hk2.trans' hk3
    clear hk3
    replace hb := hb.kept hk2
    replace hB := hB.trans' hk2
    clear hk2 c0 c1 c2 c3 c4 c5 c6 c7 c8 c9 c10 c11
    have c0 := hb.cell 0
    have c1 := hb.cell 1
    have c2 := hb.cell 2
    have c3 := hb.cell 3
    have c4 := hb.cell 4
    have c5 := hb.cell 5
    have c6 := hb.cell 6
    have c7 := hb.cell 7
    have c8 := hb.cell 8
    have c9 := hb.cell 9
    have c10 := hb.cell 10
    have c11 := hb.cell 11
    have hlt := hb.lt
    go_wp2_with fail
    have x1 : IntKind.i64.wrap (eventsI c + 2) = eventsI c + 2 := IntWalk.i64_in _ (by omega)
    have x2 : IntKind.i64.wrap (64 * (eventsI c + 2)) = 64 * (eventsI c + 2) := IntWalk.i64_in _ (by omega)
    have x3 : IntKind.i64.wrap (64 * (eventsI c + 2) + 16) = windowsI c := by rw [IntWalk.i64_in _ (by omega), HX.out]
    have x4 : IntKind.i64.wrap (windowsI c * 1000) = windowsI c * 1000 := IntWalk.i64_in _ (by omega)
    have hK : Kept w3 w3.drew := (Below.refl _ _).drew
    go_region_held3 (fun w' => w'.cell? ⟨w.heap.size, 0, none⟩ = some (.int .i64 c.c0) ∧ w'.cell? ⟨w.heap.size, 1, none⟩ = some (.int .i64 c.c1) ∧ w'.cell? ⟨w.heap.size, 2, none⟩ = some (.int .i64 c.c2) ∧ w'.cell? ⟨w.heap.size, 3, none⟩ = some (.int .i64 c.c3) ∧ w'.cell? ⟨w.heap.size, 4, none⟩ = some (.int .i64 c.c4) ∧ w'.cell? ⟨w.heap.size, 5, none⟩ = some (.int .i64 c.mks) ∧ w'.cell? ⟨w.heap.size, 6, none⟩ = some (.int .i64 c.mus) ∧ w'.cell? ⟨w.heap.size, 7, none⟩ = some (.int .i64 c.dq) ∧ w'.cell? ⟨w.heap.size, 8, none⟩ = some (.int .i64 c.ch) ∧ w'.cell? ⟨w.heap.size, 9, none⟩ = some (.int .i64 c.bu) ∧ w'.cell? ⟨w.heap.size, 10, none⟩ = some (.int .i64 c.ro) ∧ w'.cell? ⟨w.heap.size, 11, none⟩ = some (.int .i64 c.sw))
      (first | exact ⟨c0, c1, c2, c3, c4, c5, c6, c7, c8, c9, c10, c11⟩ | (have hcc := fun i => Below.cell hK (p := ⟨w.heap.size, i, none⟩) hlt; exact ⟨(hcc 0).trans c0, (hcc 1).trans c1, (hcc 2).trans c2, (hcc 3).trans c3, (hcc 4).trans c4, (hcc 5).trans c5, (hcc 6).trans c6, (hcc 7).trans c7, (hcc 8).trans c8, (hcc 9).trans c9, (hcc 10).trans c10, (hcc 11).trans c11⟩))
      (first
        | (go_at_call 8; refine (bT_is z1.out _).mono ?_; rintro e w2 ⟨rfl, hk2⟩; replace hK := Kept.trans' hK hk2; clear hk2)
        | (go_at_call 9; refine (bS_is z2.out _).mono ?_; rintro e w2 ⟨rfl, hk2⟩; replace hK := Kept.trans' hK hk2; clear hk2)
        | (go_at_call 10; refine (bE_is z3.out _).mono ?_; rintro e w2 ⟨rfl, hk2⟩; replace hK := Kept.trans' hK hk2; clear hk2)
        | (go_at_call 11; refine (bW_is z4.out _).mono ?_; rintro e w2 ⟨rfl, hk2⟩; replace hK := Kept.trans' hK hk2; clear hk2)
        | (go_at_call 12; refine (bSt_is z5.out _).mono ?_; rintro e w2 ⟨rfl, hk2⟩; replace hK := Kept.trans' hK hk2; clear hk2)
        | (go_at_call 7; refine (model_any c _).mono ?_; rintro e w2 ⟨rfl, hk2⟩; replace hK := Kept.trans' hK hk2; clear hk2)
        | (go_at_call 14; refine (reftasks_any c _ HG.out).mono ?_; rintro e w2 ⟨rfl, hk2⟩; replace hK := Kept.trans' hK hk2; clear hk2)
        | (go_at_call 15; refine (refslotsum_any c _ HG.out).mono ?_; rintro e w2 ⟨rfl, hk2⟩; replace hK := Kept.trans' hK hk2; clear hk2))
    go_wp2_with fail
    go_ret
    exact ⟨rfl, hB.trans' hK⟩
  · have hpm := hp (n) (by omega) (by omega)
    obtain ⟨hp0, hp1⟩ := hpm
    have z5 : Hid (bWindowsI c * wideI n = windowsI c * n) := by unfold Hid; rw [z4.out, q3 h h']
    clear q1 q2 q3 hp
    go_enter Try.func3, Try.ntmps3
    go_wp2_with fail
    refine (awake_any _).mono ?_; rintro e w1 ⟨rfl, hk1⟩
    have hb : Blk w1 w.heap.size 24 [.int .i64 c.c0, .int .i64 c.c1, .int .i64 c.c2, .int .i64 c.c3, .int .i64 c.c4, .int .i64 c.mks, .int .i64 c.mus, .int .i64 c.dq, .int .i64 c.ch, .int .i64 c.bu, .int .i64 c.ro, .int .i64 c.sw] := hk1.blk (Blk.new w _ _)
    have hB : Kept w w1 := ((Below.refl _ _).alloc (Nat.le_refl _) _).trans (hk1.mono (by simp))
    have c0 := hb.cell 0
    have c1 := hb.cell 1
    have c2 := hb.cell 2
    have c3 := hb.cell 3
    have c4 := hb.cell 4
    have c5 := hb.cell 5
    have c6 := hb.cell 6
    have c7 := hb.cell 7
    have c8 := hb.cell 8
    have c9 := hb.cell 9
    have c10 := hb.cell 10
    have c11 := hb.cell 11
    go_wp2_with fail
    refine (model_any c _).mono ?_; rintro e w2 ⟨rfl, hk2⟩
    go_wp2_with fail
    refine (ref_is HE.out _).mono ?_; rintro e w3 ⟨rfl, hk3⟩
    replace hk2 := hk2.trans' hk3
    clear hk3
    replace hb := hb.kept hk2
    replace hB := hB.trans' hk2
    clear hk2 c0 c1 c2 c3 c4 c5 c6 c7 c8 c9 c10 c11
    have c0 := hb.cell 0
    have c1 := hb.cell 1
    have c2 := hb.cell 2
    have c3 := hb.cell 3
    have c4 := hb.cell 4
    have c5 := hb.cell 5
    have c6 := hb.cell 6
    have c7 := hb.cell 7
    have c8 := hb.cell 8
    have c9 := hb.cell 9
    have c10 := hb.cell 10
    have c11 := hb.cell 11
    go_wp2_with fail
    refine (model_any c _).mono ?_; rintro e w2 ⟨rfl, hk2⟩
    go_wp2_with fail
    refine (refwindows_any c _ HG.out).mono ?_; rintro e w3 ⟨rfl, hk3⟩
    replace hk2 := hk2.trans' hk3
    clear hk3
    replace hb := hb.kept hk2
    replace hB := hB.trans' hk2
    clear hk2 c0 c1 c2 c3 c4 c5 c6 c7 c8 c9 c10 c11
    have c0 := hb.cell 0
    have c1 := hb.cell 1
    have c2 := hb.cell 2
    have c3 := hb.cell 3
    have c4 := hb.cell 4
    have c5 := hb.cell 5
    have c6 := hb.cell 6
    have c7 := hb.cell 7
    have c8 := hb.cell 8
    have c9 := hb.cell 9
    have c10 := hb.cell 10
    have c11 := hb.cell 11
    have hlt := hb.lt
    go_wp2_with fail
    have x1 : IntKind.i64.wrap (eventsI c + 2) = eventsI c + 2 := IntWalk.i64_in _ (by omega)
    have x2 : IntKind.i64.wrap (64 * (eventsI c + 2)) = 64 * (eventsI c + 2) := IntWalk.i64_in _ (by omega)
    have x3 : IntKind.i64.wrap (64 * (eventsI c + 2) + 16) = windowsI c := by rw [IntWalk.i64_in _ (by omega), HX.out]
    have x4 : IntKind.i64.wrap (windowsI c * n) = windowsI c * n := IntWalk.i64_in _ (by omega)
    have hK : Kept w3 w3.drew := (Below.refl _ _).drew
    go_region_held3 (fun w' => w'.cell? ⟨w.heap.size, 0, none⟩ = some (.int .i64 c.c0) ∧ w'.cell? ⟨w.heap.size, 1, none⟩ = some (.int .i64 c.c1) ∧ w'.cell? ⟨w.heap.size, 2, none⟩ = some (.int .i64 c.c2) ∧ w'.cell? ⟨w.heap.size, 3, none⟩ = some (.int .i64 c.c3) ∧ w'.cell? ⟨w.heap.size, 4, none⟩ = some (.int .i64 c.c4) ∧ w'.cell? ⟨w.heap.size, 5, none⟩ = some (.int .i64 c.mks) ∧ w'.cell? ⟨w.heap.size, 6, none⟩ = some (.int .i64 c.mus) ∧ w'.cell? ⟨w.heap.size, 7, none⟩ = some (.int .i64 c.dq) ∧ w'.cell? ⟨w.heap.size, 8, none⟩ = some (.int .i64 c.ch) ∧ w'.cell? ⟨w.heap.size, 9, none⟩ = some (.int .i64 c.bu) ∧ w'.cell? ⟨w.heap.size, 10, none⟩ = some (.int .i64 c.ro) ∧ w'.cell? ⟨w.heap.size, 11, none⟩ = some (.int .i64 c.sw))
      (first | exact ⟨c0, c1, c2, c3, c4, c5, c6, c7, c8, c9, c10, c11⟩ | (have hcc := fun i => Below.cell hK (p := ⟨w.heap.size, i, none⟩) hlt; exact ⟨(hcc 0).trans c0, (hcc 1).trans c1, (hcc 2).trans c2, (hcc 3).trans c3, (hcc 4).trans c4, (hcc 5).trans c5, (hcc 6).trans c6, (hcc 7).trans c7, (hcc 8).trans c8, (hcc 9).trans c9, (hcc 10).trans c10, (hcc 11).trans c11⟩))
      (first
        | (go_at_call 8; refine (bT_is z1.out _).mono ?_; rintro e w2 ⟨rfl, hk2⟩; replace hK := Kept.trans' hK hk2; clear hk2)
        | (go_at_call 9; refine (bS_is z2.out _).mono ?_; rintro e w2 ⟨rfl, hk2⟩; replace hK := Kept.trans' hK hk2; clear hk2)
        | (go_at_call 10; refine (bE_is z3.out _).mono ?_; rintro e w2 ⟨rfl, hk2⟩; replace hK := Kept.trans' hK hk2; clear hk2)
        | (go_at_call 11; refine (bW_is z4.out _).mono ?_; rintro e w2 ⟨rfl, hk2⟩; replace hK := Kept.trans' hK hk2; clear hk2)
        | (go_at_call 12; refine (bSt_is z5.out _).mono ?_; rintro e w2 ⟨rfl, hk2⟩; replace hK := Kept.trans' hK hk2; clear hk2)
        | (go_at_call 7; refine (model_any c _).mono ?_; rintro e w2 ⟨rfl, hk2⟩; replace hK := Kept.trans' hK hk2; clear hk2)
        | (go_at_call 14; refine (reftasks_any c _ HG.out).mono ?_; rintro e w2 ⟨rfl, hk2⟩; replace hK := Kept.trans' hK hk2; clear hk2)
        | (go_at_call 15; refine (refslotsum_any c _ HG.out).mono ?_; rintro e w2 ⟨rfl, hk2⟩; replace hK := Kept.trans' hK hk2; clear hk2))
    go_wp2_with fail
    go_ret
    exact ⟨rfl, hB.trans' hK⟩

end Go.Proofs.Ytfamlfemdegmpaa
