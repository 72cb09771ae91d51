/- The law on how the bounds grow, walked. -/
import Derived.Test.YtfamlfemdegmpaaBnd9
import Derived.Test.YtfamlfemdegmpaaGrow1
import Derived.Test.YtfamlfemdegmpaaMin
namespace Go.Proofs.Ytfamlfemdegmpaa
open Go.RowKit

theorem grows_no (c : Cfg) (k : Int) (w : World) (hg : ¬ Good c) :
    Calls Try.prog 4 #[.agg #[.int .i64 c.c0, .int .i64 c.c1, .int .i64 c.c2, .int .i64 c.c3, .int .i64 c.c4, .int .i64 c.mks, .int .i64 c.mus, .int .i64 c.dq, .int .i64 c.ch, .int .i64 c.bu, .int .i64 c.ro, .int .i64 c.sw], .int .u8 k] w fun r w' => r = .returned (.bool true) ∧ Kept w w' := by
  have HE : Hid (errI c = 21) := errI_no hg
  clear hg
  go_enter Try.func4, Try.ntmps4
  go_wp2_with fail
  refine (awake_any _).mono ?_; rintro e w1 ⟨rfl, hk1⟩
  have hb : Blk w1 w.heap.size 24 [.int .i64 c.c0, .int .i64 c.c1, .int .i64 c.c2, .int .i64 c.c3, .int .i64 c.c4, .int .i64 c.mks, .int .i64 c.mus, .int .i64 c.dq, .int .i64 c.ch, .int .i64 c.bu, .int .i64 c.ro, .int .i64 c.sw] := hk1.blk (Blk.new w _ _)
  have hK : Kept w w1 := ((Below.refl _ _).alloc (Nat.le_refl _) _).trans (hk1.mono (by simp))
  have c0 := hb.cell 0
  have c1 := hb.cell 1
  have c2 := hb.cell 2
  have c3 := hb.cell 3
  have c4 := hb.cell 4
  have c5 := hb.cell 5
  have c6 := hb.cell 6
  have c7 := hb.cell 7
  have c8 := hb.cell 8
  have c9 := hb.cell 9
  have c10 := hb.cell 10
  have c11 := hb.cell 11
  go_wp2_with fail
  refine (model_any c _).mono ?_; rintro e w2 ⟨rfl, hk2⟩
  go_wp2_with fail
  refine (ref_is HE.out _).mono ?_; rintro e w3 ⟨rfl, hk3⟩
  go_wp2_with fail
  go_ret
  exact ⟨rfl, hK.trans' (hk2.trans' hk3)⟩

set_option maxHeartbeats 3200000 in
theorem grows_0 (c : Cfg) (k : Int) (w : World) (hg : Good c) (hk0 : 0 ≤ k) (hk1 : k ≤ 255) (hkm : k % 5 = 0) :
    Calls Try.prog 4 #[.agg #[.int .i64 c.c0, .int .i64 c.c1, .int .i64 c.c2, .int .i64 c.c3, .int .i64 c.c4, .int .i64 c.mks, .int .i64 c.mus, .int .i64 c.dq, .int .i64 c.ch, .int .i64 c.bu, .int .i64 c.ro, .int .i64 c.sw], .int .u8 k] w fun r w' => r = .returned (.bool true) ∧ Kept w w' := by
  have z1 : Hid (bTasksI c = tasksI c) := if_pos hg
  have z2 : Hid (bSlotsI c = slotsSumI c) := if_pos hg
  have z3 : Hid (bEventsI c = eventsI c) := if_pos hg
  have z4 : Hid (bWindowsI c = windowsI c) := if_pos hg
  have za : Hid (bWindowsI (cellMore0 c) = windowsI (cellMore0 c)) := if_pos (cellMore0_good hg)
  have zb : Hid (bWindowsI (chLess c) = windowsI (chLess c)) := if_pos (chLess_good hg)
  have zd : Hid (bWindowsI (mkMore c) = windowsI (mkMore c)) := if_pos (mkMore_good hg)
  have zs1 : Hid (bWindowsI c * wideI 1 = windowsI c) := by unfold Hid; rw [z4.out, show wideI 1 = 1 from by decide, Int.mul_one]
  have zs2 : Hid (bWindowsI c * wideI 2 = 2 * windowsI c) := by unfold Hid; rw [z4.out, show wideI 2 = 2 from by decide, Int.mul_comm]
  have HE : Hid (errI c = 0) := errI_yes hg
  have la := cellMore0_windows hg
  have lb := chLess_windows hg
  have ld := mkMore_windows hg
  have tb := tasks_between hg
  have el := events_least hg
  have e0 := (events_bound hg).1
  have e1 := (events_bound hg).2
  have t0 := (tasks_bound hg).1
  have t1 := (tasks_bound hg).2
  have s0 := (slotsSum_bound hg).1
  have s1 := (slotsSum_bound hg).2
  obtain ⟨tb0, tb1⟩ := tb
  obtain ⟨el0, el1⟩ := el
  have wmx : windowsI c ≤ 500000000 := by unfold windowsI; omega
  have w0 : 0 ≤ windowsI c := by omega
  obtain ⟨⟨h00, h01⟩, ⟨h10, h11⟩, ⟨h20, h21⟩, ⟨h30, h31⟩, ⟨h40, h41⟩, ⟨hm0, hm1⟩, _, _, ⟨hc0, hc1⟩, _⟩ := hg
  generalize tasksI c = T at *
  generalize slotsSumI c = S at *
  generalize eventsI c = E at *
  generalize windowsI c = Wi at *
  generalize windowsI (cellMore0 c) = Wa at *
  generalize windowsI (chLess c) = Wb at *
  generalize windowsI (mkMore c) = Wd at *
  go_enter Try.func4, Try.ntmps4
  go_wp2_with fail
  refine (awake_any _).mono ?_; rintro e w1 ⟨rfl, hk1⟩
  have hb : Blk w1 w.heap.size 24 [.int .i64 c.c0, .int .i64 c.c1, .int .i64 c.c2, .int .i64 c.c3, .int .i64 c.c4, .int .i64 c.mks, .int .i64 c.mus, .int .i64 c.dq, .int .i64 c.ch, .int .i64 c.bu, .int .i64 c.ro, .int .i64 c.sw] := hk1.blk (Blk.new w _ _)
  have hB : Kept w w1 := ((Below.refl _ _).alloc (Nat.le_refl _) _).trans (hk1.mono (by simp))
  have c0 := hb.cell 0
  have c1 := hb.cell 1
  have c2 := hb.cell 2
  have c3 := hb.cell 3
  have c4 := hb.cell 4
  have c5 := hb.cell 5
  have c6 := hb.cell 6
  have c7 := hb.cell 7
  have c8 := hb.cell 8
  have c9 := hb.cell 9
  have c10 := hb.cell 10
  have c11 := hb.cell 11
  go_wp2_with fail
  refine (model_any c _).mono ?_; rintro e w2 ⟨rfl, hk2⟩
  go_wp2_with fail
  refine (ref_is HE.out _).mono ?_; rintro e w3 ⟨rfl, hk3⟩
  replace hk2 := hk2.trans' hk3
  clear hk3
  replace hb := hb.kept hk2
  replace hB := hB.trans' hk2
  clear hk2 c0 c1 c2 c3 c4 c5 c6 c7 c8 c9 c10 c11
  have c0 := hb.cell 0
  have c1 := hb.cell 1
  have c2 := hb.cell 2
  have c3 := hb.cell 3
  have c4 := hb.cell 4
  have c5 := hb.cell 5
  have c6 := hb.cell 6
  have c7 := hb.cell 7
  have c8 := hb.cell 8
  have c9 := hb.cell 9
  have c10 := hb.cell 10
  have c11 := hb.cell 11
  have hlt := hb.lt
  go_wp2_with fail
  refine wp_loop_rounds 6 ?_
  iterate 6 (rw [rounds_succ]; go_wp2_with fail)
  refine (bT_is z1.out _).mono ?_; rintro e w2 ⟨rfl, hk2⟩
  replace hb := hb.kept hk2
  replace hB := hB.trans' hk2
  clear hk2 c0 c1 c2 c3 c4 c5 c6 c7 c8 c9 c10 c11
  have c0 := hb.cell 0
  have c1 := hb.cell 1
  have c2 := hb.cell 2
  have c3 := hb.cell 3
  have c4 := hb.cell 4
  have c5 := hb.cell 5
  have c6 := hb.cell 6
  have c7 := hb.cell 7
  have c8 := hb.cell 8
  have c9 := hb.cell 9
  have c10 := hb.cell 10
  have c11 := hb.cell 11
  have hlt := hb.lt
  go_wp2_with fail
  have x1 : IntKind.i64.wrap (c.c0 + c.c1 + c.c2 + c.c3 + c.c4 + S) = c.c0 + c.c1 + c.c2 + c.c3 + c.c4 + S := IntWalk.i64_in _ (by omega)
  have x2 : IntKind.i64.wrap (40 * T) = 40 * T := IntWalk.i64_in _ (by omega)
  have d1 : decide (T < c.c0 + c.c1 + c.c2 + c.c3 + c.c4) = false := by simp; omega
  have d2 : decide (c.c0 + c.c1 + c.c2 + c.c3 + c.c4 + S < T) = false := by simp; omega
  have d3 : decide (E < 40 * T) = false := by simp; omega
  have d4 : decide (Wi < E) = false := by simp; omega
  have hK : Kept w2 w2.drew := (Below.refl _ _).drew
  go_region_held3 (fun w' => w'.cell? ⟨w.heap.size, 0, none⟩ = some (.int .i64 c.c0) ∧ w'.cell? ⟨w.heap.size, 1, none⟩ = some (.int .i64 c.c1) ∧ w'.cell? ⟨w.heap.size, 2, none⟩ = some (.int .i64 c.c2) ∧ w'.cell? ⟨w.heap.size, 3, none⟩ = some (.int .i64 c.c3) ∧ w'.cell? ⟨w.heap.size, 4, none⟩ = some (.int .i64 c.c4) ∧ w'.cell? ⟨w.heap.size, 5, none⟩ = some (.int .i64 c.mks) ∧ w'.cell? ⟨w.heap.size, 6, none⟩ = some (.int .i64 c.mus) ∧ w'.cell? ⟨w.heap.size, 7, none⟩ = some (.int .i64 c.dq) ∧ w'.cell? ⟨w.heap.size, 8, none⟩ = some (.int .i64 c.ch) ∧ w'.cell? ⟨w.heap.size, 9, none⟩ = some (.int .i64 c.bu) ∧ w'.cell? ⟨w.heap.size, 10, none⟩ = some (.int .i64 c.ro) ∧ w'.cell? ⟨w.heap.size, 11, none⟩ = some (.int .i64 c.sw))
    (first | exact ⟨c0, c1, c2, c3, c4, c5, c6, c7, c8, c9, c10, c11⟩ | (have hcc := fun i => Below.cell hK (p := ⟨w.heap.size, i, none⟩) hlt; exact ⟨(hcc 0).trans c0, (hcc 1).trans c1, (hcc 2).trans c2, (hcc 3).trans c3, (hcc 4).trans c4, (hcc 5).trans c5, (hcc 6).trans c6, (hcc 7).trans c7, (hcc 8).trans c8, (hcc 9).trans c9, (hcc 10).trans c10, (hcc 11).trans c11⟩))
    (first
      | (go_at_call 9; refine (bS_is z2.out _).mono ?_; rintro e w2 ⟨rfl, hk2⟩; replace hK := Kept.trans' hK hk2; clear hk2)
      | (go_at_call 10; refine (bE_is z3.out _).mono ?_; rintro e w2 ⟨rfl, hk2⟩; replace hK := Kept.trans' hK hk2; clear hk2)
      | (go_at_call 11; refine (bW_is z4.out _).mono ?_; rintro e w2 ⟨rfl, hk2⟩; replace hK := Kept.trans' hK hk2; clear hk2))
  replace hb := hb.kept hK
  replace hB := hB.trans' hK
  clear x1 x2 d1 d2 d3 d4 hK c0 c1 c2 c3 c4 c5 c6 c7 c8 c9 c10 c11 hlt
  have c0 := hb.cell 0
  have c1 := hb.cell 1
  have c2 := hb.cell 2
  have c3 := hb.cell 3
  have c4 := hb.cell 4
  have c5 := hb.cell 5
  have c6 := hb.cell 6
  have c7 := hb.cell 7
  have c8 := hb.cell 8
  have c9 := hb.cell 9
  have c10 := hb.cell 10
  have c11 := hb.cell 11
  have hlt := hb.lt
  go_wp2_with fail
  have ZA : Hid (∀ W, Calls Try.prog 11 #[.agg #[.int .i64 (min (c.c0 + 1) 12), .int .i64 c.c1, .int .i64 c.c2, .int .i64 c.c3, .int .i64 c.c4, .int .i64 c.mks, .int .i64 c.mus, .int .i64 c.dq, .int .i64 c.ch, .int .i64 c.bu, .int .i64 c.ro, .int .i64 c.sw]] W fun e w' => e = .returned (.int .i64 Wa) ∧ Kept W w') := fun W => bW_is za.out W
  have ZB : Hid (∀ W, Calls Try.prog 11 #[.agg #[.int .i64 c.c0, .int .i64 c.c1, .int .i64 c.c2, .int .i64 c.c3, .int .i64 c.c4, .int .i64 c.mks, .int .i64 c.mus, .int .i64 c.dq, .int .i64 (max (c.ch - 1) 1), .int .i64 c.bu, .int .i64 c.ro, .int .i64 c.sw]] W fun e w' => e = .returned (.int .i64 Wb) ∧ Kept W w') := fun W => bW_is zb.out W
  have ZD : Hid (∀ W, Calls Try.prog 11 #[.agg #[.int .i64 c.c0, .int .i64 c.c1, .int .i64 c.c2, .int .i64 c.c3, .int .i64 c.c4, .int .i64 (min (c.mks + 1) 4), .int .i64 c.mus, .int .i64 c.dq, .int .i64 c.ch, .int .i64 c.bu, .int .i64 c.ro, .int .i64 c.sw]] W fun e w' => e = .returned (.int .i64 Wd) ∧ Kept W w') := fun W => bW_is zd.out W
  have ZC : Hid (∀ W, Calls Try.prog 11 #[.agg #[.int .i64 c.c0, .int .i64 c.c1, .int .i64 c.c2, .int .i64 c.c3, .int .i64 c.c4, .int .i64 c.mks, .int .i64 c.mus, .int .i64 c.dq, .int .i64 c.ch, .int .i64 c.bu, .int .i64 c.ro, .int .i64 c.sw]] W fun e w' => e = .returned (.int .i64 Wi) ∧ Kept W w') := fun W => bW_is z4.out W
  have Z1 : Hid (∀ W, Calls Try.prog 12 #[.agg #[.int .i64 c.c0, .int .i64 c.c1, .int .i64 c.c2, .int .i64 c.c3, .int .i64 c.c4, .int .i64 c.mks, .int .i64 c.mus, .int .i64 c.dq, .int .i64 c.ch, .int .i64 c.bu, .int .i64 c.ro, .int .i64 c.sw], .int .i64 1] W fun e w' => e = .returned (.int .i64 Wi) ∧ Kept W w') := fun W => bSt_is zs1.out W
  have Z2 : Hid (∀ W, Calls Try.prog 12 #[.agg #[.int .i64 c.c0, .int .i64 c.c1, .int .i64 c.c2, .int .i64 c.c3, .int .i64 c.c4, .int .i64 c.mks, .int .i64 c.mus, .int .i64 c.dq, .int .i64 c.ch, .int .i64 c.bu, .int .i64 c.ro, .int .i64 c.sw], .int .i64 2] W fun e w' => e = .returned (.int .i64 (2 * Wi)) ∧ Kept W w') := fun W => bSt_is zs2.out W
  obtain ⟨W4, hW4⟩ : ∃ W4, W4 = ((w2.alloc (.cells #[.int .i64 (min (c.c0 + 1) 12), .int .i64 c.c1, .int .i64 c.c2, .int .i64 c.c3, .int .i64 c.c4, .int .i64 c.mks, .int .i64 c.mus, .int .i64 c.dq, .int .i64 c.ch, .int .i64 c.bu, .int .i64 c.ro, .int .i64 c.sw] 24)).alloc (.cells #[.int .i64 c.c0, .int .i64 c.c1, .int .i64 c.c2, .int .i64 c.c3, .int .i64 c.c4, .int .i64 c.mks, .int .i64 c.mus, .int .i64 c.dq, .int .i64 (max (c.ch - 1) 1), .int .i64 c.bu, .int .i64 c.ro, .int .i64 c.sw] 24)).alloc (.cells #[.int .i64 c.c0, .int .i64 c.c1, .int .i64 c.c2, .int .i64 c.c3, .int .i64 c.c4, .int .i64 (min (c.mks + 1) 4), .int .i64 c.mus, .int .i64 c.dq, .int .i64 c.ch, .int .i64 c.bu, .int .i64 c.ro, .int .i64 c.sw] 24) := ⟨_, rfl⟩
  have hA : Blk W4 w2.heap.size 24 [.int .i64 (min (c.c0 + 1) 12), .int .i64 c.c1, .int .i64 c.c2, .int .i64 c.c3, .int .i64 c.c4, .int .i64 c.mks, .int .i64 c.mus, .int .i64 c.dq, .int .i64 c.ch, .int .i64 c.bu, .int .i64 c.ro, .int .i64 c.sw] := by rw [hW4]; exact ((Blk.new w2 _ _).alloc _).alloc _
  have hBB : Blk W4 (w2.heap.size + 1) 24 [.int .i64 c.c0, .int .i64 c.c1, .int .i64 c.c2, .int .i64 c.c3, .int .i64 c.c4, .int .i64 c.mks, .int .i64 c.mus, .int .i64 c.dq, .int .i64 (max (c.ch - 1) 1), .int .i64 c.bu, .int .i64 c.ro, .int .i64 c.sw] := by rw [hW4]; have := (Blk.new (w2.alloc (.cells #[.int .i64 (min (c.c0 + 1) 12), .int .i64 c.c1, .int .i64 c.c2, .int .i64 c.c3, .int .i64 c.c4, .int .i64 c.mks, .int .i64 c.mus, .int .i64 c.dq, .int .i64 c.ch, .int .i64 c.bu, .int .i64 c.ro, .int .i64 c.sw] 24)) 24 [.int .i64 c.c0, .int .i64 c.c1, .int .i64 c.c2, .int .i64 c.c3, .int .i64 c.c4, .int .i64 c.mks, .int .i64 c.mus, .int .i64 c.dq, .int .i64 (max (c.ch - 1) 1), .int .i64 c.bu, .int .i64 c.ro, .int .i64 c.sw]).alloc (.cells #[.int .i64 c.c0, .int .i64 c.c1, .int .i64 c.c2, .int .i64 c.c3, .int .i64 c.c4, .int .i64 (min (c.mks + 1) 4), .int .i64 c.mus, .int .i64 c.dq, .int .i64 c.ch, .int .i64 c.bu, .int .i64 c.ro, .int .i64 c.sw] 24); simpa using this
  have hD : Blk W4 (w2.heap.size + 1 + 1) 24 [.int .i64 c.c0, .int .i64 c.c1, .int .i64 c.c2, .int .i64 c.c3, .int .i64 c.c4, .int .i64 (min (c.mks + 1) 4), .int .i64 c.mus, .int .i64 c.dq, .int .i64 c.ch, .int .i64 c.bu, .int .i64 c.ro, .int .i64 c.sw] := by rw [hW4]; have := Blk.new ((w2.alloc (.cells #[.int .i64 (min (c.c0 + 1) 12), .int .i64 c.c1, .int .i64 c.c2, .int .i64 c.c3, .int .i64 c.c4, .int .i64 c.mks, .int .i64 c.mus, .int .i64 c.dq, .int .i64 c.ch, .int .i64 c.bu, .int .i64 c.ro, .int .i64 c.sw] 24)).alloc (.cells #[.int .i64 c.c0, .int .i64 c.c1, .int .i64 c.c2, .int .i64 c.c3, .int .i64 c.c4, .int .i64 c.mks, .int .i64 c.mus, .int .i64 c.dq, .int .i64 (max (c.ch - 1) 1), .int .i64 c.bu, .int .i64 c.ro, .int .i64 c.sw] 24)) 24 [.int .i64 c.c0, .int .i64 c.c1, .int .i64 c.c2, .int .i64 c.c3, .int .i64 c.c4, .int .i64 (min (c.mks + 1) 4), .int .i64 c.mus, .int .i64 c.dq, .int .i64 c.ch, .int .i64 c.bu, .int .i64 c.ro, .int .i64 c.sw]; simpa using this
  have hC : Blk W4 w.heap.size 24 [.int .i64 c.c0, .int .i64 c.c1, .int .i64 c.c2, .int .i64 c.c3, .int .i64 c.c4, .int .i64 c.mks, .int .i64 c.mus, .int .i64 c.dq, .int .i64 c.ch, .int .i64 c.bu, .int .i64 c.ro, .int .i64 c.sw] := by rw [hW4]; exact ((hb.alloc _).alloc _).alloc _
  have hB4 : Kept w W4 := by rw [hW4]; exact hB.trans' (((Below.refl _ _).alloc (Nat.le_refl _) _ |>.alloc (by simp) _).alloc (by simp; omega) _)
  rw [← hW4]
  clear hW4 c0 c1 c2 c3 c4 c5 c6 c7 c8 c9 c10 c11 hlt hb hB
  generalize w2.heap.size = bA at *
  generalize bA + 1 = bB at *
  generalize bB + 1 = bD at *
  have lqc := hC.lt
  have c0 := hC.cell 0
  have c1 := hC.cell 1
  have c2 := hC.cell 2
  have c3 := hC.cell 3
  have c4 := hC.cell 4
  have c5 := hC.cell 5
  have c6 := hC.cell 6
  have c7 := hC.cell 7
  have c8 := hC.cell 8
  have c9 := hC.cell 9
  have c10 := hC.cell 10
  have c11 := hC.cell 11
  have lqa := hA.lt
  have a0 := hA.cell 0
  have a1 := hA.cell 1
  have a2 := hA.cell 2
  have a3 := hA.cell 3
  have a4 := hA.cell 4
  have a5 := hA.cell 5
  have a6 := hA.cell 6
  have a7 := hA.cell 7
  have a8 := hA.cell 8
  have a9 := hA.cell 9
  have a10 := hA.cell 10
  have a11 := hA.cell 11
  have lqb := hBB.lt
  have b0 := hBB.cell 0
  have b1 := hBB.cell 1
  have b2 := hBB.cell 2
  have b3 := hBB.cell 3
  have b4 := hBB.cell 4
  have b5 := hBB.cell 5
  have b6 := hBB.cell 6
  have b7 := hBB.cell 7
  have b8 := hBB.cell 8
  have b9 := hBB.cell 9
  have b10 := hBB.cell 10
  have b11 := hBB.cell 11
  have lqd := hD.lt
  have d0 := hD.cell 0
  have d1 := hD.cell 1
  have d2 := hD.cell 2
  have d3 := hD.cell 3
  have d4 := hD.cell 4
  have d5 := hD.cell 5
  have d6 := hD.cell 6
  have d7 := hD.cell 7
  have d8 := hD.cell 8
  have d9 := hD.cell 9
  have d10 := hD.cell 10
  have d11 := hD.cell 11
  have x1 : IntKind.i64.wrap (2 * Wi) = 2 * Wi := IntWalk.i64_in _ (by omega)
  have dax : decide (Wi ≤ Wa) = true := by simp; omega
  have dbx : decide (Wi ≤ Wb) = true := by simp; omega
  have ddx : decide (Wi ≤ Wd) = true := by simp; omega
  have hK : Kept W4 W4.drew := (Below.refl _ _).drew
  clear la lb ld
  have HS : Hid (∀ W, Kept W4 W → (W.cell? ⟨w.heap.size, 0, none⟩ = some (.int .i64 c.c0) ∧ W.cell? ⟨w.heap.size, 1, none⟩ = some (.int .i64 c.c1) ∧ W.cell? ⟨w.heap.size, 2, none⟩ = some (.int .i64 c.c2) ∧ W.cell? ⟨w.heap.size, 3, none⟩ = some (.int .i64 c.c3) ∧ W.cell? ⟨w.heap.size, 4, none⟩ = some (.int .i64 c.c4) ∧ W.cell? ⟨w.heap.size, 5, none⟩ = some (.int .i64 c.mks) ∧ W.cell? ⟨w.heap.size, 6, none⟩ = some (.int .i64 c.mus) ∧ W.cell? ⟨w.heap.size, 7, none⟩ = some (.int .i64 c.dq) ∧ W.cell? ⟨w.heap.size, 8, none⟩ = some (.int .i64 c.ch) ∧ W.cell? ⟨w.heap.size, 9, none⟩ = some (.int .i64 c.bu) ∧ W.cell? ⟨w.heap.size, 10, none⟩ = some (.int .i64 c.ro) ∧ W.cell? ⟨w.heap.size, 11, none⟩ = some (.int .i64 c.sw) ∧ W.cell? ⟨bA, 0, none⟩ = some (.int .i64 (min (c.c0 + 1) 12)) ∧ W.cell? ⟨bA, 1, none⟩ = some (.int .i64 c.c1) ∧ W.cell? ⟨bA, 2, none⟩ = some (.int .i64 c.c2) ∧ W.cell? ⟨bA, 3, none⟩ = some (.int .i64 c.c3) ∧ W.cell? ⟨bA, 4, none⟩ = some (.int .i64 c.c4) ∧ W.cell? ⟨bA, 5, none⟩ = some (.int .i64 c.mks) ∧ W.cell? ⟨bA, 6, none⟩ = some (.int .i64 c.mus) ∧ W.cell? ⟨bA, 7, none⟩ = some (.int .i64 c.dq) ∧ W.cell? ⟨bA, 8, none⟩ = some (.int .i64 c.ch) ∧ W.cell? ⟨bA, 9, none⟩ = some (.int .i64 c.bu) ∧ W.cell? ⟨bA, 10, none⟩ = some (.int .i64 c.ro) ∧ W.cell? ⟨bA, 11, none⟩ = some (.int .i64 c.sw) ∧ W.cell? ⟨bB, 0, none⟩ = some (.int .i64 c.c0) ∧ W.cell? ⟨bB, 1, none⟩ = some (.int .i64 c.c1) ∧ W.cell? ⟨bB, 2, none⟩ = some (.int .i64 c.c2) ∧ W.cell? ⟨bB, 3, none⟩ = some (.int .i64 c.c3) ∧ W.cell? ⟨bB, 4, none⟩ = some (.int .i64 c.c4) ∧ W.cell? ⟨bB, 5, none⟩ = some (.int .i64 c.mks) ∧ W.cell? ⟨bB, 6, none⟩ = some (.int .i64 c.mus) ∧ W.cell? ⟨bB, 7, none⟩ = some (.int .i64 c.dq) ∧ W.cell? ⟨bB, 8, none⟩ = some (.int .i64 (max (c.ch - 1) 1)) ∧ W.cell? ⟨bB, 9, none⟩ = some (.int .i64 c.bu) ∧ W.cell? ⟨bB, 10, none⟩ = some (.int .i64 c.ro) ∧ W.cell? ⟨bB, 11, none⟩ = some (.int .i64 c.sw) ∧ W.cell? ⟨bD, 0, none⟩ = some (.int .i64 c.c0) ∧ W.cell? ⟨bD, 1, none⟩ = some (.int .i64 c.c1) ∧ W.cell? ⟨bD, 2, none⟩ = some (.int .i64 c.c2) ∧ W.cell? ⟨bD, 3, none⟩ = some (.int .i64 c.c3) ∧ W.cell? ⟨bD, 4, none⟩ = some (.int .i64 c.c4) ∧ W.cell? ⟨bD, 5, none⟩ = some (.int .i64 (min (c.mks + 1) 4)) ∧ W.cell? ⟨bD, 6, none⟩ = some (.int .i64 c.mus) ∧ W.cell? ⟨bD, 7, none⟩ = some (.int .i64 c.dq) ∧ W.cell? ⟨bD, 8, none⟩ = some (.int .i64 c.ch) ∧ W.cell? ⟨bD, 9, none⟩ = some (.int .i64 c.bu) ∧ W.cell? ⟨bD, 10, none⟩ = some (.int .i64 c.ro) ∧ W.cell? ⟨bD, 11, none⟩ = some (.int .i64 c.sw))) := fun W hK => ⟨(Below.cell hK lqc).trans c0, (Below.cell hK lqc).trans c1, (Below.cell hK lqc).trans c2, (Below.cell hK lqc).trans c3, (Below.cell hK lqc).trans c4, (Below.cell hK lqc).trans c5, (Below.cell hK lqc).trans c6, (Below.cell hK lqc).trans c7, (Below.cell hK lqc).trans c8, (Below.cell hK lqc).trans c9, (Below.cell hK lqc).trans c10, (Below.cell hK lqc).trans c11, (Below.cell hK lqa).trans a0, (Below.cell hK lqa).trans a1, (Below.cell hK lqa).trans a2, (Below.cell hK lqa).trans a3, (Below.cell hK lqa).trans a4, (Below.cell hK lqa).trans a5, (Below.cell hK lqa).trans a6, (Below.cell hK lqa).trans a7, (Below.cell hK lqa).trans a8, (Below.cell hK lqa).trans a9, (Below.cell hK lqa).trans a10, (Below.cell hK lqa).trans a11, (Below.cell hK lqb).trans b0, (Below.cell hK lqb).trans b1, (Below.cell hK lqb).trans b2, (Below.cell hK lqb).trans b3, (Below.cell hK lqb).trans b4, (Below.cell hK lqb).trans b5, (Below.cell hK lqb).trans b6, (Below.cell hK lqb).trans b7, (Below.cell hK lqb).trans b8, (Below.cell hK lqb).trans b9, (Below.cell hK lqb).trans b10, (Below.cell hK lqb).trans b11, (Below.cell hK lqd).trans d0, (Below.cell hK lqd).trans d1, (Below.cell hK lqd).trans d2, (Below.cell hK lqd).trans d3, (Below.cell hK lqd).trans d4, (Below.cell hK lqd).trans d5, (Below.cell hK lqd).trans d6, (Below.cell hK lqd).trans d7, (Below.cell hK lqd).trans d8, (Below.cell hK lqd).trans d9, (Below.cell hK lqd).trans d10, (Below.cell hK lqd).trans d11⟩
  clear c0 c1 c2 c3 c4 c5 c6 c7 c8 c9 c10 c11 a0 a1 a2 a3 a4 a5 a6 a7 a8 a9 a10 a11 b0 b1 b2 b3 b4 b5 b6 b7 b8 b9 b10 b11 d0 d1 d2 d3 d4 d5 d6 d7 d8 d9 d10 d11
  go_region_held3 (fun w' => w'.cell? ⟨w.heap.size, 0, none⟩ = some (.int .i64 c.c0) ∧ w'.cell? ⟨w.heap.size, 1, none⟩ = some (.int .i64 c.c1) ∧ w'.cell? ⟨w.heap.size, 2, none⟩ = some (.int .i64 c.c2) ∧ w'.cell? ⟨w.heap.size, 3, none⟩ = some (.int .i64 c.c3) ∧ w'.cell? ⟨w.heap.size, 4, none⟩ = some (.int .i64 c.c4) ∧ w'.cell? ⟨w.heap.size, 5, none⟩ = some (.int .i64 c.mks) ∧ w'.cell? ⟨w.heap.size, 6, none⟩ = some (.int .i64 c.mus) ∧ w'.cell? ⟨w.heap.size, 7, none⟩ = some (.int .i64 c.dq) ∧ w'.cell? ⟨w.heap.size, 8, none⟩ = some (.int .i64 c.ch) ∧ w'.cell? ⟨w.heap.size, 9, none⟩ = some (.int .i64 c.bu) ∧ w'.cell? ⟨w.heap.size, 10, none⟩ = some (.int .i64 c.ro) ∧ w'.cell? ⟨w.heap.size, 11, none⟩ = some (.int .i64 c.sw) ∧ w'.cell? ⟨bA, 0, none⟩ = some (.int .i64 (min (c.c0 + 1) 12)) ∧ w'.cell? ⟨bA, 1, none⟩ = some (.int .i64 c.c1) ∧ w'.cell? ⟨bA, 2, none⟩ = some (.int .i64 c.c2) ∧ w'.cell? ⟨bA, 3, none⟩ = some (.int .i64 c.c3) ∧ w'.cell? ⟨bA, 4, none⟩ = some (.int .i64 c.c4) ∧ w'.cell? ⟨bA, 5, none⟩ = some (.int .i64 c.mks) ∧ w'.cell? ⟨bA, 6, none⟩ = some (.int .i64 c.mus) ∧ w'.cell? ⟨bA, 7, none⟩ = some (.int .i64 c.dq) ∧ w'.cell? ⟨bA, 8, none⟩ = some (.int .i64 c.ch) ∧ w'.cell? ⟨bA, 9, none⟩ = some (.int .i64 c.bu) ∧ w'.cell? ⟨bA, 10, none⟩ = some (.int .i64 c.ro) ∧ w'.cell? ⟨bA, 11, none⟩ = some (.int .i64 c.sw) ∧ w'.cell? ⟨bB, 0, none⟩ = some (.int .i64 c.c0) ∧ w'.cell? ⟨bB, 1, none⟩ = some (.int .i64 c.c1) ∧ w'.cell? ⟨bB, 2, none⟩ = some (.int .i64 c.c2) ∧ w'.cell? ⟨bB, 3, none⟩ = some (.int .i64 c.c3) ∧ w'.cell? ⟨bB, 4, none⟩ = some (.int .i64 c.c4) ∧ w'.cell? ⟨bB, 5, none⟩ = some (.int .i64 c.mks) ∧ w'.cell? ⟨bB, 6, none⟩ = some (.int .i64 c.mus) ∧ w'.cell? ⟨bB, 7, none⟩ = some (.int .i64 c.dq) ∧ w'.cell? ⟨bB, 8, none⟩ = some (.int .i64 (max (c.ch - 1) 1)) ∧ w'.cell? ⟨bB, 9, none⟩ = some (.int .i64 c.bu) ∧ w'.cell? ⟨bB, 10, none⟩ = some (.int .i64 c.ro) ∧ w'.cell? ⟨bB, 11, none⟩ = some (.int .i64 c.sw) ∧ w'.cell? ⟨bD, 0, none⟩ = some (.int .i64 c.c0) ∧ w'.cell? ⟨bD, 1, none⟩ = some (.int .i64 c.c1) ∧ w'.cell? ⟨bD, 2, none⟩ = some (.int .i64 c.c2) ∧ w'.cell? ⟨bD, 3, none⟩ = some (.int .i64 c.c3) ∧ w'.cell? ⟨bD, 4, none⟩ = some (.int .i64 c.c4) ∧ w'.cell? ⟨bD, 5, none⟩ = some (.int .i64 (min (c.mks + 1) 4)) ∧ w'.cell? ⟨bD, 6, none⟩ = some (.int .i64 c.mus) ∧ w'.cell? ⟨bD, 7, none⟩ = some (.int .i64 c.dq) ∧ w'.cell? ⟨bD, 8, none⟩ = some (.int .i64 c.ch) ∧ w'.cell? ⟨bD, 9, none⟩ = some (.int .i64 c.bu) ∧ w'.cell? ⟨bD, 10, none⟩ = some (.int .i64 c.ro) ∧ w'.cell? ⟨bD, 11, none⟩ = some (.int .i64 c.sw))
    (exact Hid.out HS _ hK)
    (first
      | (go_at_call 11; (with_reducible refine (Hid.out ZC _).mono ?_); rintro e w2 ⟨rfl, hk2⟩; replace hK := Kept.trans' hK hk2; clear hk2)
      | (go_at_call 11; (with_reducible refine (Hid.out ZA _).mono ?_); rintro e w2 ⟨rfl, hk2⟩; replace hK := Kept.trans' hK hk2; clear hk2)
      | (go_at_call 11; (with_reducible refine (Hid.out ZB _).mono ?_); rintro e w2 ⟨rfl, hk2⟩; replace hK := Kept.trans' hK hk2; clear hk2)
      | (go_at_call 11; (with_reducible refine (Hid.out ZD _).mono ?_); rintro e w2 ⟨rfl, hk2⟩; replace hK := Kept.trans' hK hk2; clear hk2)
      | (go_at_call 12; (with_reducible refine (Hid.out Z1 _).mono ?_); rintro e w2 ⟨rfl, hk2⟩; replace hK := Kept.trans' hK hk2; clear hk2)
      | (go_at_call 12; (with_reducible refine (Hid.out Z2 _).mono ?_); rintro e w2 ⟨rfl, hk2⟩; replace hK := Kept.trans' hK hk2; clear hk2))
  go_wp2_with fail
  go_ret
  exact ⟨rfl, hB4.trans' hK⟩

set_option maxHeartbeats 3200000 in
theorem grows_1 (c : Cfg) (k : Int) (w : World) (hg : Good c) (hk0 : 0 ≤ k) (hk1 : k ≤ 255) (hkm : k % 5 = 1) :
    Calls Try.prog 4 #[.agg #[.int .i64 c.c0, .int .i64 c.c1, .int .i64 c.c2, .int .i64 c.c3, .int .i64 c.c4, .int .i64 c.mks, .int .i64 c.mus, .int .i64 c.dq, .int .i64 c.ch, .int .i64 c.bu, .int .i64 c.ro, .int .i64 c.sw], .int .u8 k] w fun r w' => r = .returned (.bool true) ∧ Kept w w' := by
  have z1 : Hid (bTasksI c = tasksI c) := if_pos hg
  have z2 : Hid (bSlotsI c = slotsSumI c) := if_pos hg
  have z3 : Hid (bEventsI c = eventsI c) := if_pos hg
  have z4 : Hid (bWindowsI c = windowsI c) := if_pos hg
  have za : Hid (bWindowsI (cellMore1 c) = windowsI (cellMore1 c)) := if_pos (cellMore1_good hg)
  have zb : Hid (bWindowsI (chLess c) = windowsI (chLess c)) := if_pos (chLess_good hg)
  have zd : Hid (bWindowsI (mkMore c) = windowsI (mkMore c)) := if_pos (mkMore_good hg)
  have zs1 : Hid (bWindowsI c * wideI 1 = windowsI c) := by unfold Hid; rw [z4.out, show wideI 1 = 1 from by decide, Int.mul_one]
  have zs2 : Hid (bWindowsI c * wideI 2 = 2 * windowsI c) := by unfold Hid; rw [z4.out, show wideI 2 = 2 from by decide, Int.mul_comm]
  have HE : Hid (errI c = 0) := errI_yes hg
  have la := cellMore1_windows hg
  have lb := chLess_windows hg
  have ld := mkMore_windows hg
  have tb := tasks_between hg
  have el := events_least hg
  have e0 := (events_bound hg).1
  have e1 := (events_bound hg).2
  have t0 := (tasks_bound hg).1
  have t1 := (tasks_bound hg).2
  have s0 := (slotsSum_bound hg).1
  have s1 := (slotsSum_bound hg).2
  obtain ⟨tb0, tb1⟩ := tb
  obtain ⟨el0, el1⟩ := el
  have wmx : windowsI c ≤ 500000000 := by unfold windowsI; omega
  have w0 : 0 ≤ windowsI c := by omega
  obtain ⟨⟨h00, h01⟩, ⟨h10, h11⟩, ⟨h20, h21⟩, ⟨h30, h31⟩, ⟨h40, h41⟩, ⟨hm0, hm1⟩, _, _, ⟨hc0, hc1⟩, _⟩ := hg
  generalize tasksI c = T at *
  generalize slotsSumI c = S at *
  generalize eventsI c = E at *
  generalize windowsI c = Wi at *
  generalize windowsI (cellMore1 c) = Wa at *
  generalize windowsI (chLess c) = Wb at *
  generalize windowsI (mkMore c) = Wd at *
  go_enter Try.func4, Try.ntmps4
  go_wp2_with fail
  refine (awake_any _).mono ?_; rintro e w1 ⟨rfl, hk1⟩
  have hb : Blk w1 w.heap.size 24 [.int .i64 c.c0, .int .i64 c.c1, .int .i64 c.c2, .int .i64 c.c3, .int .i64 c.c4, .int .i64 c.mks, .int .i64 c.mus, .int .i64 c.dq, .int .i64 c.ch, .int .i64 c.bu, .int .i64 c.ro, .int .i64 c.sw] := hk1.blk (Blk.new w _ _)
  have hB : Kept w w1 := ((Below.refl _ _).alloc (Nat.le_refl _) _).trans (hk1.mono (by simp))
  have c0 := hb.cell 0
  have c1 := hb.cell 1
  have c2 := hb.cell 2
  have c3 := hb.cell 3
  have c4 := hb.cell 4
  have c5 := hb.cell 5
  have c6 := hb.cell 6
  have c7 := hb.cell 7
  have c8 := hb.cell 8
  have c9 := hb.cell 9
  have c10 := hb.cell 10
  have c11 := hb.cell 11
  go_wp2_with fail
  refine (model_any c _).mono ?_; rintro e w2 ⟨rfl, hk2⟩
  go_wp2_with fail
  refine (ref_is HE.out _).mono ?_; rintro e w3 ⟨rfl, hk3⟩
  replace hk2 := hk2.trans' hk3
  clear hk3
  replace hb := hb.kept hk2
  replace hB := hB.trans' hk2
  clear hk2 c0 c1 c2 c3 c4 c5 c6 c7 c8 c9 c10 c11
  have c0 := hb.cell 0
  have c1 := hb.cell 1
  have c2 := hb.cell 2
  have c3 := hb.cell 3
  have c4 := hb.cell 4
  have c5 := hb.cell 5
  have c6 := hb.cell 6
  have c7 := hb.cell 7
  have c8 := hb.cell 8
  have c9 := hb.cell 9
  have c10 := hb.cell 10
  have c11 := hb.cell 11
  have hlt := hb.lt
  go_wp2_with fail
  refine wp_loop_rounds 6 ?_
  iterate 6 (rw [rounds_succ]; go_wp2_with fail)
  refine (bT_is z1.out _).mono ?_; rintro e w2 ⟨rfl, hk2⟩
  replace hb := hb.kept hk2
  replace hB := hB.trans' hk2
  clear hk2 c0 c1 c2 c3 c4 c5 c6 c7 c8 c9 c10 c11
  have c0 := hb.cell 0
  have c1 := hb.cell 1
  have c2 := hb.cell 2
  have c3 := hb.cell 3
  have c4 := hb.cell 4
  have c5 := hb.cell 5
  have c6 := hb.cell 6
  have c7 := hb.cell 7
  have c8 := hb.cell 8
  have c9 := hb.cell 9
  have c10 := hb.cell 10
  have c11 := hb.cell 11
  have hlt := hb.lt
  go_wp2_with fail
  have x1 : IntKind.i64.wrap (c.c0 + c.c1 + c.c2 + c.c3 + c.c4 + S) = c.c0 + c.c1 + c.c2 + c.c3 + c.c4 + S := IntWalk.i64_in _ (by omega)
  have x2 : IntKind.i64.wrap (40 * T) = 40 * T := IntWalk.i64_in _ (by omega)
  have d1 : decide (T < c.c0 + c.c1 + c.c2 + c.c3 + c.c4) = false := by simp; omega
  have d2 : decide (c.c0 + c.c1 + c.c2 + c.c3 + c.c4 + S < T) = false := by simp; omega
  have d3 : decide (E < 40 * T) = false := by simp; omega
  have d4 : decide (Wi < E) = false := by simp; omega
  have hK : Kept w2 w2.drew := (Below.refl _ _).drew
  go_region_held3 (fun w' => w'.cell? ⟨w.heap.size, 0, none⟩ = some (.int .i64 c.c0) ∧ w'.cell? ⟨w.heap.size, 1, none⟩ = some (.int .i64 c.c1) ∧ w'.cell? ⟨w.heap.size, 2, none⟩ = some (.int .i64 c.c2) ∧ w'.cell? ⟨w.heap.size, 3, none⟩ = some (.int .i64 c.c3) ∧ w'.cell? ⟨w.heap.size, 4, none⟩ = some (.int .i64 c.c4) ∧ w'.cell? ⟨w.heap.size, 5, none⟩ = some (.int .i64 c.mks) ∧ w'.cell? ⟨w.heap.size, 6, none⟩ = some (.int .i64 c.mus) ∧ w'.cell? ⟨w.heap.size, 7, none⟩ = some (.int .i64 c.dq) ∧ w'.cell? ⟨w.heap.size, 8, none⟩ = some (.int .i64 c.ch) ∧ w'.cell? ⟨w.heap.size, 9, none⟩ = some (.int .i64 c.bu) ∧ w'.cell? ⟨w.heap.size, 10, none⟩ = some (.int .i64 c.ro) ∧ w'.cell? ⟨w.heap.size, 11, none⟩ = some (.int .i64 c.sw))
    (first | exact ⟨c0, c1, c2, c3, c4, c5, c6, c7, c8, c9, c10, c11⟩ | (have hcc := fun i => Below.cell hK (p := ⟨w.heap.size, i, none⟩) hlt; exact ⟨(hcc 0).trans c0, (hcc 1).trans c1, (hcc 2).trans c2, (hcc 3).trans c3, (hcc 4).trans c4, (hcc 5).trans c5, (hcc 6).trans c6, (hcc 7).trans c7, (hcc 8).trans c8, (hcc 9).trans c9, (hcc 10).trans c10, (hcc 11).trans c11⟩))
    (first
      | (go_at_call 9; refine (bS_is z2.out _).mono ?_; rintro e w2 ⟨rfl, hk2⟩; replace hK := Kept.trans' hK hk2; clear hk2)
      | (go_at_call 10; refine (bE_is z3.out _).mono ?_; rintro e w2 ⟨rfl, hk2⟩; replace hK := Kept.trans' hK hk2; clear hk2)
      | (go_at_call 11; refine (bW_is z4.out _).mono ?_; rintro e w2 ⟨rfl, hk2⟩; replace hK := Kept.trans' hK hk2; clear hk2))
  replace hb := hb.kept hK
  replace hB := hB.trans' hK
  clear x1 x2 d1 d2 d3 d4 hK c0 c1 c2 c3 c4 c5 c6 c7 c8 c9 c10 c11 hlt
  have c0 := hb.cell 0
  have c1 := hb.cell 1
  have c2 := hb.cell 2
  have c3 := hb.cell 3
  have c4 := hb.cell 4
  have c5 := hb.cell 5
  have c6 := hb.cell 6
  have c7 := hb.cell 7
  have c8 := hb.cell 8
  have c9 := hb.cell 9
  have c10 := hb.cell 10
  have c11 := hb.cell 11
  have hlt := hb.lt
  go_wp2_with fail
  have ZA : Hid (∀ W, Calls Try.prog 11 #[.agg #[.int .i64 c.c0, .int .i64 (min (c.c1 + 1) 12), .int .i64 c.c2, .int .i64 c.c3, .int .i64 c.c4, .int .i64 c.mks, .int .i64 c.mus, .int .i64 c.dq, .int .i64 c.ch, .int .i64 c.bu, .int .i64 c.ro, .int .i64 c.sw]] W fun e w' => e = .returned (.int .i64 Wa) ∧ Kept W w') := fun W => bW_is za.out W
  have ZB : Hid (∀ W, Calls Try.prog 11 #[.agg #[.int .i64 c.c0, .int .i64 c.c1, .int .i64 c.c2, .int .i64 c.c3, .int .i64 c.c4, .int .i64 c.mks, .int .i64 c.mus, .int .i64 c.dq, .int .i64 (max (c.ch - 1) 1), .int .i64 c.bu, .int .i64 c.ro, .int .i64 c.sw]] W fun e w' => e = .returned (.int .i64 Wb) ∧ Kept W w') := fun W => bW_is zb.out W
  have ZD : Hid (∀ W, Calls Try.prog 11 #[.agg #[.int .i64 c.c0, .int .i64 c.c1, .int .i64 c.c2, .int .i64 c.c3, .int .i64 c.c4, .int .i64 (min (c.mks + 1) 4), .int .i64 c.mus, .int .i64 c.dq, .int .i64 c.ch, .int .i64 c.bu, .int .i64 c.ro, .int .i64 c.sw]] W fun e w' => e = .returned (.int .i64 Wd) ∧ Kept W w') := fun W => bW_is zd.out W
  have ZC : Hid (∀ W, Calls Try.prog 11 #[.agg #[.int .i64 c.c0, .int .i64 c.c1, .int .i64 c.c2, .int .i64 c.c3, .int .i64 c.c4, .int .i64 c.mks, .int .i64 c.mus, .int .i64 c.dq, .int .i64 c.ch, .int .i64 c.bu, .int .i64 c.ro, .int .i64 c.sw]] W fun e w' => e = .returned (.int .i64 Wi) ∧ Kept W w') := fun W => bW_is z4.out W
  have Z1 : Hid (∀ W, Calls Try.prog 12 #[.agg #[.int .i64 c.c0, .int .i64 c.c1, .int .i64 c.c2, .int .i64 c.c3, .int .i64 c.c4, .int .i64 c.mks, .int .i64 c.mus, .int .i64 c.dq, .int .i64 c.ch, .int .i64 c.bu, .int .i64 c.ro, .int .i64 c.sw], .int .i64 1] W fun e w' => e = .returned (.int .i64 Wi) ∧ Kept W w') := fun W => bSt_is zs1.out W
  have Z2 : Hid (∀ W, Calls Try.prog 12 #[.agg #[.int .i64 c.c0, .int .i64 c.c1, .int .i64 c.c2, .int .i64 c.c3, .int .i64 c.c4, .int .i64 c.mks, .int .i64 c.mus, .int .i64 c.dq, .int .i64 c.ch, .int .i64 c.bu, .int .i64 c.ro, .int .i64 c.sw], .int .i64 2] W fun e w' => e = .returned (.int .i64 (2 * Wi)) ∧ Kept W w') := fun W => bSt_is zs2.out W
  obtain ⟨W4, hW4⟩ : ∃ W4, W4 = ((w2.alloc (.cells #[.int .i64 c.c0, .int .i64 (min (c.c1 + 1) 12), .int .i64 c.c2, .int .i64 c.c3, .int .i64 c.c4, .int .i64 c.mks, .int .i64 c.mus, .int .i64 c.dq, .int .i64 c.ch, .int .i64 c.bu, .int .i64 c.ro, .int .i64 c.sw] 24)).alloc (.cells #[.int .i64 c.c0, .int .i64 c.c1, .int .i64 c.c2, .int .i64 c.c3, .int .i64 c.c4, .int .i64 c.mks, .int .i64 c.mus, .int .i64 c.dq, .int .i64 (max (c.ch - 1) 1), .int .i64 c.bu, .int .i64 c.ro, .int .i64 c.sw] 24)).alloc (.cells #[.int .i64 c.c0, .int .i64 c.c1, .int .i64 c.c2, .int .i64 c.c3, .int .i64 c.c4, .int .i64 (min (c.mks + 1) 4), .int .i64 c.mus, .int .i64 c.dq, .int .i64 c.ch, .int .i64 c.bu, .int .i64 c.ro, .int .i64 c.sw] 24) := ⟨_, rfl⟩
  have hA : Blk W4 w2.heap.size 24 [.int .i64 c.c0, .int .i64 (min (c.c1 + 1) 12), .int .i64 c.c2, .int .i64 c.c3, .int .i64 c.c4, .int .i64 c.mks, .int .i64 c.mus, .int .i64 c.dq, .int .i64 c.ch, .int .i64 c.bu, .int .i64 c.ro, .int .i64 c.sw] := by rw [hW4]; exact ((Blk.new w2 _ _).alloc _).alloc _
  have hBB : Blk W4 (w2.heap.size + 1) 24 [.int .i64 c.c0, .int .i64 c.c1, .int .i64 c.c2, .int .i64 c.c3, .int .i64 c.c4, .int .i64 c.mks, .int .i64 c.mus, .int .i64 c.dq, .int .i64 (max (c.ch - 1) 1), .int .i64 c.bu, .int .i64 c.ro, .int .i64 c.sw] := by rw [hW4]; have := (Blk.new (w2.alloc (.cells #[.int .i64 c.c0, .int .i64 (min (c.c1 + 1) 12), .int .i64 c.c2, .int .i64 c.c3, .int .i64 c.c4, .int .i64 c.mks, .int .i64 c.mus, .int .i64 c.dq, .int .i64 c.ch, .int .i64 c.bu, .int .i64 c.ro, .int .i64 c.sw] 24)) 24 [.int .i64 c.c0, .int .i64 c.c1, .int .i64 c.c2, .int .i64 c.c3, .int .i64 c.c4, .int .i64 c.mks, .int .i64 c.mus, .int .i64 c.dq, .int .i64 (max (c.ch - 1) 1), .int .i64 c.bu, .int .i64 c.ro, .int .i64 c.sw]).alloc (.cells #[.int .i64 c.c0, .int .i64 c.c1, .int .i64 c.c2, .int .i64 c.c3, .int .i64 c.c4, .int .i64 (min (c.mks + 1) 4), .int .i64 c.mus, .int .i64 c.dq, .int .i64 c.ch, .int .i64 c.bu, .int .i64 c.ro, .int .i64 c.sw] 24); simpa using this
  have hD : Blk W4 (w2.heap.size + 1 + 1) 24 [.int .i64 c.c0, .int .i64 c.c1, .int .i64 c.c2, .int .i64 c.c3, .int .i64 c.c4, .int .i64 (min (c.mks + 1) 4), .int .i64 c.mus, .int .i64 c.dq, .int .i64 c.ch, .int .i64 c.bu, .int .i64 c.ro, .int .i64 c.sw] := by rw [hW4]; have := Blk.new ((w2.alloc (.cells #[.int .i64 c.c0, .int .i64 (min (c.c1 + 1) 12), .int .i64 c.c2, .int .i64 c.c3, .int .i64 c.c4, .int .i64 c.mks, .int .i64 c.mus, .int .i64 c.dq, .int .i64 c.ch, .int .i64 c.bu, .int .i64 c.ro, .int .i64 c.sw] 24)).alloc (.cells #[.int .i64 c.c0, .int .i64 c.c1, .int .i64 c.c2, .int .i64 c.c3, .int .i64 c.c4, .int .i64 c.mks, .int .i64 c.mus, .int .i64 c.dq, .int .i64 (max (c.ch - 1) 1), .int .i64 c.bu, .int .i64 c.ro, .int .i64 c.sw] 24)) 24 [.int .i64 c.c0, .int .i64 c.c1, .int .i64 c.c2, .int .i64 c.c3, .int .i64 c.c4, .int .i64 (min (c.mks + 1) 4), .int .i64 c.mus, .int .i64 c.dq, .int .i64 c.ch, .int .i64 c.bu, .int .i64 c.ro, .int .i64 c.sw]; simpa using this
  have hC : Blk W4 w.heap.size 24 [.int .i64 c.c0, .int .i64 c.c1, .int .i64 c.c2, .int .i64 c.c3, .int .i64 c.c4, .int .i64 c.mks, .int .i64 c.mus, .int .i64 c.dq, .int .i64 c.ch, .int .i64 c.bu, .int .i64 c.ro, .int .i64 c.sw] := by rw [hW4]; exact ((hb.alloc _).alloc _).alloc _
  have hB4 : Kept w W4 := by rw [hW4]; exact hB.trans' (((Below.refl _ _).alloc (Nat.le_refl _) _ |>.alloc (by simp) _).alloc (by simp; omega) _)
  rw [← hW4]
  clear hW4 c0 c1 c2 c3 c4 c5 c6 c7 c8 c9 c10 c11 hlt hb hB
  generalize w2.heap.size = bA at *
  generalize bA + 1 = bB at *
  generalize bB + 1 = bD at *
  have lqc := hC.lt
  have c0 := hC.cell 0
  have c1 := hC.cell 1
  have c2 := hC.cell 2
  have c3 := hC.cell 3
  have c4 := hC.cell 4
  have c5 := hC.cell 5
  have c6 := hC.cell 6
  have c7 := hC.cell 7
  have c8 := hC.cell 8
  have c9 := hC.cell 9
  have c10 := hC.cell 10
  have c11 := hC.cell 11
  have lqa := hA.lt
  have a0 := hA.cell 0
  have a1 := hA.cell 1
  have a2 := hA.cell 2
  have a3 := hA.cell 3
  have a4 := hA.cell 4
  have a5 := hA.cell 5
  have a6 := hA.cell 6
  have a7 := hA.cell 7
  have a8 := hA.cell 8
  have a9 := hA.cell 9
  have a10 := hA.cell 10
  have a11 := hA.cell 11
  have lqb := hBB.lt
  have b0 := hBB.cell 0
  have b1 := hBB.cell 1
  have b2 := hBB.cell 2
  have b3 := hBB.cell 3
  have b4 := hBB.cell 4
  have b5 := hBB.cell 5
  have b6 := hBB.cell 6
  have b7 := hBB.cell 7
  have b8 := hBB.cell 8
  have b9 := hBB.cell 9
  have b10 := hBB.cell 10
  have b11 := hBB.cell 11
  have lqd := hD.lt
  have d0 := hD.cell 0
  have d1 := hD.cell 1
  have d2 := hD.cell 2
  have d3 := hD.cell 3
  have d4 := hD.cell 4
  have d5 := hD.cell 5
  have d6 := hD.cell 6
  have d7 := hD.cell 7
  have d8 := hD.cell 8
  have d9 := hD.cell 9
  have d10 := hD.cell 10
  have d11 := hD.cell 11
  have x1 : IntKind.i64.wrap (2 * Wi) = 2 * Wi := IntWalk.i64_in _ (by omega)
  have dax : decide (Wi ≤ Wa) = true := by simp; omega
  have dbx : decide (Wi ≤ Wb) = true := by simp; omega
  have ddx : decide (Wi ≤ Wd) = true := by simp; omega
  have hK : Kept W4 W4.drew := (Below.refl _ _).drew
  clear la lb ld
  have HS : Hid (∀ W, Kept W4 W → (W.cell? ⟨w.heap.size, 0, none⟩ = some (.int .i64 c.c0) ∧ W.cell? ⟨w.heap.size, 1, none⟩ = some (.int .i64 c.c1) ∧ W.cell? ⟨w.heap.size, 2, none⟩ = some (.int .i64 c.c2) ∧ W.cell? ⟨w.heap.size, 3, none⟩ = some (.int .i64 c.c3) ∧ W.cell? ⟨w.heap.size, 4, none⟩ = some (.int .i64 c.c4) ∧ W.cell? ⟨w.heap.size, 5, none⟩ = some (.int .i64 c.mks) ∧ W.cell? ⟨w.heap.size, 6, none⟩ = some (.int .i64 c.mus) ∧ W.cell? ⟨w.heap.size, 7, none⟩ = some (.int .i64 c.dq) ∧ W.cell? ⟨w.heap.size, 8, none⟩ = some (.int .i64 c.ch) ∧ W.cell? ⟨w.heap.size, 9, none⟩ = some (.int .i64 c.bu) ∧ W.cell? ⟨w.heap.size, 10, none⟩ = some (.int .i64 c.ro) ∧ W.cell? ⟨w.heap.size, 11, none⟩ = some (.int .i64 c.sw) ∧ W.cell? ⟨bA, 0, none⟩ = some (.int .i64 c.c0) ∧ W.cell? ⟨bA, 1, none⟩ = some (.int .i64 (min (c.c1 + 1) 12)) ∧ W.cell? ⟨bA, 2, none⟩ = some (.int .i64 c.c2) ∧ W.cell? ⟨bA, 3, none⟩ = some (.int .i64 c.c3) ∧ W.cell? ⟨bA, 4, none⟩ = some (.int .i64 c.c4) ∧ W.cell? ⟨bA, 5, none⟩ = some (.int .i64 c.mks) ∧ W.cell? ⟨bA, 6, none⟩ = some (.int .i64 c.mus) ∧ W.cell? ⟨bA, 7, none⟩ = some (.int .i64 c.dq) ∧ W.cell? ⟨bA, 8, none⟩ = some (.int .i64 c.ch) ∧ W.cell? ⟨bA, 9, none⟩ = some (.int .i64 c.bu) ∧ W.cell? ⟨bA, 10, none⟩ = some (.int .i64 c.ro) ∧ W.cell? ⟨bA, 11, none⟩ = some (.int .i64 c.sw) ∧ W.cell? ⟨bB, 0, none⟩ = some (.int .i64 c.c0) ∧ W.cell? ⟨bB, 1, none⟩ = some (.int .i64 c.c1) ∧ W.cell? ⟨bB, 2, none⟩ = some (.int .i64 c.c2) ∧ W.cell? ⟨bB, 3, none⟩ = some (.int .i64 c.c3) ∧ W.cell? ⟨bB, 4, none⟩ = some (.int .i64 c.c4) ∧ W.cell? ⟨bB, 5, none⟩ = some (.int .i64 c.mks) ∧ W.cell? ⟨bB, 6, none⟩ = some (.int .i64 c.mus) ∧ W.cell? ⟨bB, 7, none⟩ = some (.int .i64 c.dq) ∧ W.cell? ⟨bB, 8, none⟩ = some (.int .i64 (max (c.ch - 1) 1)) ∧ W.cell? ⟨bB, 9, none⟩ = some (.int .i64 c.bu) ∧ W.cell? ⟨bB, 10, none⟩ = some (.int .i64 c.ro) ∧ W.cell? ⟨bB, 11, none⟩ = some (.int .i64 c.sw) ∧ W.cell? ⟨bD, 0, none⟩ = some (.int .i64 c.c0) ∧ W.cell? ⟨bD, 1, none⟩ = some (.int .i64 c.c1) ∧ W.cell? ⟨bD, 2, none⟩ = some (.int .i64 c.c2) ∧ W.cell? ⟨bD, 3, none⟩ = some (.int .i64 c.c3) ∧ W.cell? ⟨bD, 4, none⟩ = some (.int .i64 c.c4) ∧ W.cell? ⟨bD, 5, none⟩ = some (.int .i64 (min (c.mks + 1) 4)) ∧ W.cell? ⟨bD, 6, none⟩ = some (.int .i64 c.mus) ∧ W.cell? ⟨bD, 7, none⟩ = some (.int .i64 c.dq) ∧ W.cell? ⟨bD, 8, none⟩ = some (.int .i64 c.ch) ∧ W.cell? ⟨bD, 9, none⟩ = some (.int .i64 c.bu) ∧ W.cell? ⟨bD, 10, none⟩ = some (.int .i64 c.ro) ∧ W.cell? ⟨bD, 11, none⟩ = some (.int .i64 c.sw))) := fun W hK => ⟨(Below.cell hK lqc).trans c0, (Below.cell hK lqc).trans c1, (Below.cell hK lqc).trans c2, (Below.cell hK lqc).trans c3, (Below.cell hK lqc).trans c4, (Below.cell hK lqc).trans c5, (Below.cell hK lqc).trans c6, (Below.cell hK lqc).trans c7, (Below.cell hK lqc).trans c8, (Below.cell hK lqc).trans c9, (Below.cell hK lqc).trans c10, (Below.cell hK lqc).trans c11, (Below.cell hK lqa).trans a0, (Below.cell hK lqa).trans a1, (Below.cell hK lqa).trans a2, (Below.cell hK lqa).trans a3, (Below.cell hK lqa).trans a4, (Below.cell hK lqa).trans a5, (Below.cell hK lqa).trans a6, (Below.cell hK lqa).trans a7, (Below.cell hK lqa).trans a8, (Below.cell hK lqa).trans a9, (Below.cell hK lqa).trans a10, (Below.cell hK lqa).trans a11, (Below.cell hK lqb).trans b0, (Below.cell hK lqb).trans b1, (Below.cell hK lqb).trans b2, (Below.cell hK lqb).trans b3, (Below.cell hK lqb).trans b4, (Below.cell hK lqb).trans b5, (Below.cell hK lqb).trans b6, (Below.cell hK lqb).trans b7, (Below.cell hK lqb).trans b8, (Below.cell hK lqb).trans b9, (Below.cell hK lqb).trans b10, (Below.cell hK lqb).trans b11, (Below.cell hK lqd).trans d0, (Below.cell hK lqd).trans d1, (Below.cell hK lqd).trans d2, (Below.cell hK lqd).trans d3, (Below.cell hK lqd).trans d4, (Below.cell hK lqd).trans d5, (Below.cell hK lqd).trans d6, (Below.cell hK lqd).trans d7, (Below.cell hK lqd).trans d8, (Below.cell hK lqd).trans d9, (Below.cell hK lqd).trans d10, (Below.cell hK lqd).trans d11⟩
  clear c0 c1 c2 c3 c4 c5 c6 c7 c8 c9 c10 c11 a0 a1 a2 a3 a4 a5 a6 a7 a8 a9 a10 a11 b0 b1 b2 b3 b4 b5 b6 b7 b8 b9 b10 b11 d0 d1 d2 d3 d4 d5 d6 d7 d8 d9 d10 d11
  go_region_held3 (fun w' => w'.cell? ⟨w.heap.size, 0, none⟩ = some (.int .i64 c.c0) ∧ w'.cell? ⟨w.heap.size, 1, none⟩ = some (.int .i64 c.c1) ∧ w'.cell? ⟨w.heap.size, 2, none⟩ = some (.int .i64 c.c2) ∧ w'.cell? ⟨w.heap.size, 3, none⟩ = some (.int .i64 c.c3) ∧ w'.cell? ⟨w.heap.size, 4, none⟩ = some (.int .i64 c.c4) ∧ w'.cell? ⟨w.heap.size, 5, none⟩ = some (.int .i64 c.mks) ∧ w'.cell? ⟨w.heap.size, 6, none⟩ = some (.int .i64 c.mus) ∧ w'.cell? ⟨w.heap.size, 7, none⟩ = some (.int .i64 c.dq) ∧ w'.cell? ⟨w.heap.size, 8, none⟩ = some (.int .i64 c.ch) ∧ w'.cell? ⟨w.heap.size, 9, none⟩ = some (.int .i64 c.bu) ∧ w'.cell? ⟨w.heap.size, 10, none⟩ = some (.int .i64 c.ro) ∧ w'.cell? ⟨w.heap.size, 11, none⟩ = some (.int .i64 c.sw) ∧ w'.cell? ⟨bA, 0, none⟩ = some (.int .i64 c.c0) ∧ w'.cell? ⟨bA, 1, none⟩ = some (.int .i64 (min (c.c1 + 1) 12)) ∧ w'.cell? ⟨bA, 2, none⟩ = some (.int .i64 c.c2) ∧ w'.cell? ⟨bA, 3, none⟩ = some (.int .i64 c.c3) ∧ w'.cell? ⟨bA, 4, none⟩ = some (.int .i64 c.c4) ∧ w'.cell? ⟨bA, 5, none⟩ = some (.int .i64 c.mks) ∧ w'.cell? ⟨bA, 6, none⟩ = some (.int .i64 c.mus) ∧ w'.cell? ⟨bA, 7, none⟩ = some (.int .i64 c.dq) ∧ w'.cell? ⟨bA, 8, none⟩ = some (.int .i64 c.ch) ∧ w'.cell? ⟨bA, 9, none⟩ = some (.int .i64 c.bu) ∧ w'.cell? ⟨bA, 10, none⟩ = some (.int .i64 c.ro) ∧ w'.cell? ⟨bA, 11, none⟩ = some (.int .i64 c.sw) ∧ w'.cell? ⟨bB, 0, none⟩ = some (.int .i64 c.c0) ∧ w'.cell? ⟨bB, 1, none⟩ = some (.int .i64 c.c1) ∧ w'.cell? ⟨bB, 2, none⟩ = some (.int .i64 c.c2) ∧ w'.cell? ⟨bB, 3, none⟩ = some (.int .i64 c.c3) ∧ w'.cell? ⟨bB, 4, none⟩ = some (.int .i64 c.c4) ∧ w'.cell? ⟨bB, 5, none⟩ = some (.int .i64 c.mks) ∧ w'.cell? ⟨bB, 6, none⟩ = some (.int .i64 c.mus) ∧ w'.cell? ⟨bB, 7, none⟩ = some (.int .i64 c.dq) ∧ w'.cell? ⟨bB, 8, none⟩ = some (.int .i64 (max (c.ch - 1) 1)) ∧ w'.cell? ⟨bB, 9, none⟩ = some (.int .i64 c.bu) ∧ w'.cell? ⟨bB, 10, none⟩ = some (.int .i64 c.ro) ∧ w'.cell? ⟨bB, 11, none⟩ = some (.int .i64 c.sw) ∧ w'.cell? ⟨bD, 0, none⟩ = some (.int .i64 c.c0) ∧ w'.cell? ⟨bD, 1, none⟩ = some (.int .i64 c.c1) ∧ w'.cell? ⟨bD, 2, none⟩ = some (.int .i64 c.c2) ∧ w'.cell? ⟨bD, 3, none⟩ = some (.int .i64 c.c3) ∧ w'.cell? ⟨bD, 4, none⟩ = some (.int .i64 c.c4) ∧ w'.cell? ⟨bD, 5, none⟩ = some (.int .i64 (min (c.mks + 1) 4)) ∧ w'.cell? ⟨bD, 6, none⟩ = some (.int .i64 c.mus) ∧ w'.cell? ⟨bD, 7, none⟩ = some (.int .i64 c.dq) ∧ w'.cell? ⟨bD, 8, none⟩ = some (.int .i64 c.ch) ∧ w'.cell? ⟨bD, 9, none⟩ = some (.int .i64 c.bu) ∧ w'.cell? ⟨bD, 10, none⟩ = some (.int .i64 c.ro) ∧ w'.cell? ⟨bD, 11, none⟩ = some (.int .i64 c.sw))
    (exact Hid.out HS _ hK)
    (first
      | (go_at_call 11; (with_reducible refine (Hid.out ZC _).mono ?_); rintro e w2 ⟨rfl, hk2⟩; replace hK := Kept.trans' hK hk2; clear hk2)
      | (go_at_call 11; (with_reducible refine (Hid.out ZA _).mono ?_); rintro e w2 ⟨rfl, hk2⟩; replace hK := Kept.trans' hK hk2; clear hk2)
      | (go_at_call 11; (with_reducible refine (Hid.out ZB _).mono ?_); rintro e w2 ⟨rfl, hk2⟩; replace hK := Kept.trans' hK hk2; clear hk2)
      | (go_at_call 11; (with_reducible refine (Hid.out ZD _).mono ?_); rintro e w2 ⟨rfl, hk2⟩; replace hK := Kept.trans' hK hk2; clear hk2)
      | (go_at_call 12; (with_reducible refine (Hid.out Z1 _).mono ?_); rintro e w2 ⟨rfl, hk2⟩; replace hK := Kept.trans' hK hk2; clear hk2)
      | (go_at_call 12; (with_reducible refine (Hid.out Z2 _).mono ?_); rintro e w2 ⟨rfl, hk2⟩; replace hK := Kept.trans' hK hk2; clear hk2))
  go_wp2_with fail
  go_ret
  exact ⟨rfl, hB4.trans' hK⟩

set_option maxHeartbeats 3200000 in
theorem grows_2 (c : Cfg) (k : Int) (w : World) (hg : Good c) (hk0 : 0 ≤ k) (hk1 : k ≤ 255) (hkm : k % 5 = 2) :
    Calls Try.prog 4 #[.agg #[.int .i64 c.c0, .int .i64 c.c1, .int .i64 c.c2, .int .i64 c.c3, .int .i64 c.c4, .int .i64 c.mks, .int .i64 c.mus, .int .i64 c.dq, .int .i64 c.ch, .int .i64 c.bu, .int .i64 c.ro, .int .i64 c.sw], .int .u8 k] w fun r w' => r = .returned (.bool true) ∧ Kept w w' := by
  have z1 : Hid (bTasksI c = tasksI c) := if_pos hg
  have z2 : Hid (bSlotsI c = slotsSumI c) := if_pos hg
  have z3 : Hid (bEventsI c = eventsI c) := if_pos hg
  have z4 : Hid (bWindowsI c = windowsI c) := if_pos hg
  have za : Hid (bWindowsI (cellMore2 c) = windowsI (cellMore2 c)) := if_pos (cellMore2_good hg)
  have zb : Hid (bWindowsI (chLess c) = windowsI (chLess c)) := if_pos (chLess_good hg)
  have zd : Hid (bWindowsI (mkMore c) = windowsI (mkMore c)) := if_pos (mkMore_good hg)
  have zs1 : Hid (bWindowsI c * wideI 1 = windowsI c) := by unfold Hid; rw [z4.out, show wideI 1 = 1 from by decide, Int.mul_one]
  have zs2 : Hid (bWindowsI c * wideI 2 = 2 * windowsI c) := by unfold Hid; rw [z4.out, show wideI 2 = 2 from by decide, Int.mul_comm]
  have HE : Hid (errI c = 0) := errI_yes hg
  have la := cellMore2_windows hg
  have lb := chLess_windows hg
  have ld := mkMore_windows hg
  have tb := tasks_between hg
  have el := events_least hg
  have e0 := (events_bound hg).1
  have e1 := (events_bound hg).2
  have t0 := (tasks_bound hg).1
  have t1 := (tasks_bound hg).2
  have s0 := (slotsSum_bound hg).1
  have s1 := (slotsSum_bound hg).2
  obtain ⟨tb0, tb1⟩ := tb
  obtain ⟨el0, el1⟩ := el
  have wmx : windowsI c ≤ 500000000 := by unfold windowsI; omega
  have w0 : 0 ≤ windowsI c := by omega
  obtain ⟨⟨h00, h01⟩, ⟨h10, h11⟩, ⟨h20, h21⟩, ⟨h30, h31⟩, ⟨h40, h41⟩, ⟨hm0, hm1⟩, _, _, ⟨hc0, hc1⟩, _⟩ := hg
  generalize tasksI c = T at *
  generalize slotsSumI c = S at *
  generalize eventsI c = E at *
  generalize windowsI c = Wi at *
  generalize windowsI (cellMore2 c) = Wa at *
  generalize windowsI (chLess c) = Wb at *
  generalize windowsI (mkMore c) = Wd at *
  go_enter Try.func4, Try.ntmps4
  go_wp2_with fail
  refine (awake_any _).mono ?_; rintro e w1 ⟨rfl, hk1⟩
  have hb : Blk w1 w.heap.size 24 [.int .i64 c.c0, .int .i64 c.c1, .int .i64 c.c2, .int .i64 c.c3, .int .i64 c.c4, .int .i64 c.mks, .int .i64 c.mus, .int .i64 c.dq, .int .i64 c.ch, .int .i64 c.bu, .int .i64 c.ro, .int .i64 c.sw] := hk1.blk (Blk.new w _ _)
  have hB : Kept w w1 := ((Below.refl _ _).alloc (Nat.le_refl _) _).trans (hk1.mono (by simp))
  have c0 := hb.cell 0
  have c1 := hb.cell 1
  have c2 := hb.cell 2
  have c3 := hb.cell 3
  have c4 := hb.cell 4
  have c5 := hb.cell 5
  have c6 := hb.cell 6
  have c7 := hb.cell 7
  have c8 := hb.cell 8
  have c9 := hb.cell 9
  have c10 := hb.cell 10
  have c11 := hb.cell 11
  go_wp2_with fail
  refine (model_any c _).mono ?_; rintro e w2 ⟨rfl, hk2⟩
  go_wp2_with fail
  refine (ref_is HE.out _).mono ?_; rintro e w3 ⟨rfl, hk3⟩
  replace hk2 := hk2.trans' hk3
  clear hk3
  replace hb := hb.kept hk2
  replace hB := hB.trans' hk2
  clear hk2 c0 c1 c2 c3 c4 c5 c6 c7 c8 c9 c10 c11
  have c0 := hb.cell 0
  have c1 := hb.cell 1
  have c2 := hb.cell 2
  have c3 := hb.cell 3
  have c4 := hb.cell 4
  have c5 := hb.cell 5
  have c6 := hb.cell 6
  have c7 := hb.cell 7
  have c8 := hb.cell 8
  have c9 := hb.cell 9
  have c10 := hb.cell 10
  have c11 := hb.cell 11
  have hlt := hb.lt
  go_wp2_with fail
  refine wp_loop_rounds 6 ?_
  iterate 6 (rw [rounds_succ]; go_wp2_with fail)
  refine (bT_is z1.out _).mono ?_; rintro e w2 ⟨rfl, hk2⟩
  replace hb := hb.kept hk2
  replace hB := hB.trans' hk2
  clear hk2 c0 c1 c2 c3 c4 c5 c6 c7 c8 c9 c10 c11
  have c0 := hb.cell 0
  have c1 := hb.cell 1
  have c2 := hb.cell 2
  have c3 := hb.cell 3
  have c4 := hb.cell 4
  have c5 := hb.cell 5
  have c6 := hb.cell 6
  have c7 := hb.cell 7
  have c8 := hb.cell 8
  have c9 := hb.cell 9
  have c10 := hb.cell 10
  have c11 := hb.cell 11
  have hlt := hb.lt
  go_wp2_with fail
  have x1 : IntKind.i64.wrap (c.c0 + c.c1 + c.c2 + c.c3 + c.c4 + S) = c.c0 + c.c1 + c.c2 + c.c3 + c.c4 + S := IntWalk.i64_in _ (by omega)
  have x2 : IntKind.i64.wrap (40 * T) = 40 * T := IntWalk.i64_in _ (by omega)
  have d1 : decide (T < c.c0 + c.c1 + c.c2 + c.c3 + c.c4) = false := by simp; omega
  have d2 : decide (c.c0 + c.c1 + c.c2 + c.c3 + c.c4 + S < T) = false := by simp; omega
  have d3 : decide (E < 40 * T) = false := by simp; omega
  have d4 : decide (Wi < E) = false := by simp; omega
  have hK : Kept w2 w2.drew := (Below.refl _ _).drew
  go_region_held3 (fun w' => w'.cell? ⟨w.heap.size, 0, none⟩ = some (.int .i64 c.c0) ∧ w'.cell? ⟨w.heap.size, 1, none⟩ = some (.int .i64 c.c1) ∧ w'.cell? ⟨w.heap.size, 2, none⟩ = some (.int .i64 c.c2) ∧ w'.cell? ⟨w.heap.size, 3, none⟩ = some (.int .i64 c.c3) ∧ w'.cell? ⟨w.heap.size, 4, none⟩ = some (.int .i64 c.c4) ∧ w'.cell? ⟨w.heap.size, 5, none⟩ = some (.int .i64 c.mks) ∧ w'.cell? ⟨w.heap.size, 6, none⟩ = some (.int .i64 c.mus) ∧ w'.cell? ⟨w.heap.size, 7, none⟩ = some (.int .i64 c.dq) ∧ w'.cell? ⟨w.heap.size, 8, none⟩ = some (.int .i64 c.ch) ∧ w'.cell? ⟨w.heap.size, 9, none⟩ = some (.int .i64 c.bu) ∧ w'.cell? ⟨w.heap.size, 10, none⟩ = some (.int .i64 c.ro) ∧ w'.cell? ⟨w.heap.size, 11, none⟩ = some (.int .i64 c.sw))
    (first | exact ⟨c0, c1, c2, c3, c4, c5, c6, c7, c8, c9, c10, c11⟩ | (have hcc := fun i => Below.cell hK (p := ⟨w.heap.size, i, none⟩) hlt; exact ⟨(hcc 0).trans c0, (hcc 1).trans c1, (hcc 2).trans c2, (hcc 3).trans c3, (hcc 4).trans c4, (hcc 5).trans c5, (hcc 6).trans c6, (hcc 7).trans c7, (hcc 8).trans c8, (hcc 9).trans c9, (hcc 10).trans c10, (hcc 11).trans c11⟩))
    (first
      | (go_at_call 9; refine (bS_is z2.out _).mono ?_; rintro e w2 ⟨rfl, hk2⟩; replace hK := Kept.trans' hK hk2; clear hk2)
      | (go_at_call 10; refine (bE_is z3.out _).mono ?_; rintro e w2 ⟨rfl, hk2⟩; replace hK := Kept.trans' hK hk2; clear hk2)
      | (go_at_call 11; refine (bW_is z4.out _).mono ?_; rintro e w2 ⟨rfl, hk2⟩; replace hK := Kept.trans' hK hk2; clear hk2))
  replace hb := hb.kept hK
  replace hB := hB.trans' hK
  clear x1 x2 d1 d2 d3 d4 hK c0 c1 c2 c3 c4 c5 c6 c7 c8 c9 c10 c11 hlt
  have c0 := hb.cell 0
  have c1 := hb.cell 1
  have c2 := hb.cell 2
  have c3 := hb.cell 3
  have c4 := hb.cell 4
  have c5 := hb.cell 5
  have c6 := hb.cell 6
  have c7 := hb.cell 7
  have c8 := hb.cell 8
  have c9 := hb.cell 9
  have c10 := hb.cell 10
  have c11 := hb.cell 11
  have hlt := hb.lt
  go_wp2_with fail
  have ZA : Hid (∀ W, Calls Try.prog 11 #[.agg #[.int .i64 c.c0, .int .i64 c.c1, .int .i64 (min (c.c2 + 1) 12), .int .i64 c.c3, .int .i64 c.c4, .int .i64 c.mks, .int .i64 c.mus, .int .i64 c.dq, .int .i64 c.ch, .int .i64 c.bu, .int .i64 c.ro, .int .i64 c.sw]] W fun e w' => e = .returned (.int .i64 Wa) ∧ Kept W w') := fun W => bW_is za.out W
  have ZB : Hid (∀ W, Calls Try.prog 11 #[.agg #[.int .i64 c.c0, .int .i64 c.c1, .int .i64 c.c2, .int .i64 c.c3, .int .i64 c.c4, .int .i64 c.mks, .int .i64 c.mus, .int .i64 c.dq, .int .i64 (max (c.ch - 1) 1), .int .i64 c.bu, .int .i64 c.ro, .int .i64 c.sw]] W fun e w' => e = .returned (.int .i64 Wb) ∧ Kept W w') := fun W => bW_is zb.out W
  have ZD : Hid (∀ W, Calls Try.prog 11 #[.agg #[.int .i64 c.c0, .int .i64 c.c1, .int .i64 c.c2, .int .i64 c.c3, .int .i64 c.c4, .int .i64 (min (c.mks + 1) 4), .int .i64 c.mus, .int .i64 c.dq, .int .i64 c.ch, .int .i64 c.bu, .int .i64 c.ro, .int .i64 c.sw]] W fun e w' => e = .returned (.int .i64 Wd) ∧ Kept W w') := fun W => bW_is zd.out W
  have ZC : Hid (∀ W, Calls Try.prog 11 #[.agg #[.int .i64 c.c0, .int .i64 c.c1, .int .i64 c.c2, .int .i64 c.c3, .int .i64 c.c4, .int .i64 c.mks, .int .i64 c.mus, .int .i64 c.dq, .int .i64 c.ch, .int .i64 c.bu, .int .i64 c.ro, .int .i64 c.sw]] W fun e w' => e = .returned (.int .i64 Wi) ∧ Kept W w') := fun W => bW_is z4.out W
  have Z1 : Hid (∀ W, Calls Try.prog 12 #[.agg #[.int .i64 c.c0, .int .i64 c.c1, .int .i64 c.c2, .int .i64 c.c3, .int .i64 c.c4, .int .i64 c.mks, .int .i64 c.mus, .int .i64 c.dq, .int .i64 c.ch, .int .i64 c.bu, .int .i64 c.ro, .int .i64 c.sw], .int .i64 1] W fun e w' => e = .returned (.int .i64 Wi) ∧ Kept W w') := fun W => bSt_is zs1.out W
  have Z2 : Hid (∀ W, Calls Try.prog 12 #[.agg #[.int .i64 c.c0, .int .i64 c.c1, .int .i64 c.c2, .int .i64 c.c3, .int .i64 c.c4, .int .i64 c.mks, .int .i64 c.mus, .int .i64 c.dq, .int .i64 c.ch, .int .i64 c.bu, .int .i64 c.ro, .int .i64 c.sw], .int .i64 2] W fun e w' => e = .returned (.int .i64 (2 * Wi)) ∧ Kept W w') := fun W => bSt_is zs2.out W
  obtain ⟨W4, hW4⟩ : ∃ W4, W4 = ((w2.alloc (.cells #[.int .i64 c.c0, .int .i64 c.c1, .int .i64 (min (c.c2 + 1) 12), .int .i64 c.c3, .int .i64 c.c4, .int .i64 c.mks, .int .i64 c.mus, .int .i64 c.dq, .int .i64 c.ch, .int .i64 c.bu, .int .i64 c.ro, .int .i64 c.sw] 24)).alloc (.cells #[.int .i64 c.c0, .int .i64 c.c1, .int .i64 c.c2, .int .i64 c.c3, .int .i64 c.c4, .int .i64 c.mks, .int .i64 c.mus, .int .i64 c.dq, .int .i64 (max (c.ch - 1) 1), .int .i64 c.bu, .int .i64 c.ro, .int .i64 c.sw] 24)).alloc (.cells #[.int .i64 c.c0, .int .i64 c.c1, .int .i64 c.c2, .int .i64 c.c3, .int .i64 c.c4, .int .i64 (min (c.mks + 1) 4), .int .i64 c.mus, .int .i64 c.dq, .int .i64 c.ch, .int .i64 c.bu, .int .i64 c.ro, .int .i64 c.sw] 24) := ⟨_, rfl⟩
  have hA : Blk W4 w2.heap.size 24 [.int .i64 c.c0, .int .i64 c.c1, .int .i64 (min (c.c2 + 1) 12), .int .i64 c.c3, .int .i64 c.c4, .int .i64 c.mks, .int .i64 c.mus, .int .i64 c.dq, .int .i64 c.ch, .int .i64 c.bu, .int .i64 c.ro, .int .i64 c.sw] := by rw [hW4]; exact ((Blk.new w2 _ _).alloc _).alloc _
  have hBB : Blk W4 (w2.heap.size + 1) 24 [.int .i64 c.c0, .int .i64 c.c1, .int .i64 c.c2, .int .i64 c.c3, .int .i64 c.c4, .int .i64 c.mks, .int .i64 c.mus, .int .i64 c.dq, .int .i64 (max (c.ch - 1) 1), .int .i64 c.bu, .int .i64 c.ro, .int .i64 c.sw] := by rw [hW4]; have := (Blk.new (w2.alloc (.cells #[.int .i64 c.c0, .int .i64 c.c1, .int .i64 (min (c.c2 + 1) 12), .int .i64 c.c3, .int .i64 c.c4, .int .i64 c.mks, .int .i64 c.mus, .int .i64 c.dq, .int .i64 c.ch, .int .i64 c.bu, .int .i64 c.ro, .int .i64 c.sw] 24)) 24 [.int .i64 c.c0, .int .i64 c.c1, .int .i64 c.c2, .int .i64 c.c3, .int .i64 c.c4, .int .i64 c.mks, .int .i64 c.mus, .int .i64 c.dq, .int .i64 (max (c.ch - 1) 1), .int .i64 c.bu, .int .i64 c.ro, .int .i64 c.sw]).alloc (.cells #[.int .i64 c.c0, .int .i64 c.c1, .int .i64 c.c2, .int .i64 c.c3, .int .i64 c.c4, .int .i64 (min (c.mks + 1) 4), .int .i64 c.mus, .int .i64 c.dq, .int .i64 c.ch, .int .i64 c.bu, .int .i64 c.ro, .int .i64 c.sw] 24); simpa using this
  have hD : Blk W4 (w2.heap.size + 1 + 1) 24 [.int .i64 c.c0, .int .i64 c.c1, .int .i64 c.c2, .int .i64 c.c3, .int .i64 c.c4, .int .i64 (min (c.mks + 1) 4), .int .i64 c.mus, .int .i64 c.dq, .int .i64 c.ch, .int .i64 c.bu, .int .i64 c.ro, .int .i64 c.sw] := by rw [hW4]; have := Blk.new ((w2.alloc (.cells #[.int .i64 c.c0, .int .i64 c.c1, .int .i64 (min (c.c2 + 1) 12), .int .i64 c.c3, .int .i64 c.c4, .int .i64 c.mks, .int .i64 c.mus, .int .i64 c.dq, .int .i64 c.ch, .int .i64 c.bu, .int .i64 c.ro, .int .i64 c.sw] 24)).alloc (.cells #[.int .i64 c.c0, .int .i64 c.c1, .int .i64 c.c2, .int .i64 c.c3, .int .i64 c.c4, .int .i64 c.mks, .int .i64 c.mus, .int .i64 c.dq, .int .i64 (max (c.ch - 1) 1), .int .i64 c.bu, .int .i64 c.ro, .int .i64 c.sw] 24)) 24 [.int .i64 c.c0, .int .i64 c.c1, .int .i64 c.c2, .int .i64 c.c3, .int .i64 c.c4, .int .i64 (min (c.mks + 1) 4), .int .i64 c.mus, .int .i64 c.dq, .int .i64 c.ch, .int .i64 c.bu, .int .i64 c.ro, .int .i64 c.sw]; simpa using this
  have hC : Blk W4 w.heap.size 24 [.int .i64 c.c0, .int .i64 c.c1, .int .i64 c.c2, .int .i64 c.c3, .int .i64 c.c4, .int .i64 c.mks, .int .i64 c.mus, .int .i64 c.dq, .int .i64 c.ch, .int .i64 c.bu, .int .i64 c.ro, .int .i64 c.sw] := by rw [hW4]; exact ((hb.alloc _).alloc _).alloc _
  have hB4 : Kept w W4 := by rw [hW4]; exact hB.trans' (((Below.refl _ _).alloc (Nat.le_refl _) _ |>.alloc (by simp) _).alloc (by simp; omega) _)
  rw [← hW4]
  clear hW4 c0 c1 c2 c3 c4 c5 c6 c7 c8 c9 c10 c11 hlt hb hB
  generalize w2.heap.size = bA at *
  generalize bA + 1 = bB at *
  generalize bB + 1 = bD at *
  have lqc := hC.lt
  have c0 := hC.cell 0
  have c1 := hC.cell 1
  have c2 := hC.cell 2
  have c3 := hC.cell 3
  have c4 := hC.cell 4
  have c5 := hC.cell 5
  have c6 := hC.cell 6
  have c7 := hC.cell 7
  have c8 := hC.cell 8
  have c9 := hC.cell 9
  have c10 := hC.cell 10
  have c11 := hC.cell 11
  have lqa := hA.lt
  have a0 := hA.cell 0
  have a1 := hA.cell 1
  have a2 := hA.cell 2
  have a3 := hA.cell 3
  have a4 := hA.cell 4
  have a5 := hA.cell 5
  have a6 := hA.cell 6
  have a7 := hA.cell 7
  have a8 := hA.cell 8
  have a9 := hA.cell 9
  have a10 := hA.cell 10
  have a11 := hA.cell 11
  have lqb := hBB.lt
  have b0 := hBB.cell 0
  have b1 := hBB.cell 1
  have b2 := hBB.cell 2
  have b3 := hBB.cell 3
  have b4 := hBB.cell 4
  have b5 := hBB.cell 5
  have b6 := hBB.cell 6
  have b7 := hBB.cell 7
  have b8 := hBB.cell 8
  have b9 := hBB.cell 9
  have b10 := hBB.cell 10
  have b11 := hBB.cell 11
  have lqd := hD.lt
  have d0 := hD.cell 0
  have d1 := hD.cell 1
  have d2 := hD.cell 2
  have d3 := hD.cell 3
  have d4 := hD.cell 4
  have d5 := hD.cell 5
  have d6 := hD.cell 6
  have d7 := hD.cell 7
  have d8 := hD.cell 8
  have d9 := hD.cell 9
  have d10 := hD.cell 10
  have d11 := hD.cell 11
  have x1 : IntKind.i64.wrap (2 * Wi) = 2 * Wi := IntWalk.i64_in _ (by omega)
  have dax : decide (Wi ≤ Wa) = true := by simp; omega
  have dbx : decide (Wi ≤ Wb) = true := by simp; omega
  have ddx : decide (Wi ≤ Wd) = true := by simp; omega
  have hK : Kept W4 W4.drew := (Below.refl _ _).drew
  clear la lb ld
  have HS : Hid (∀ W, Kept W4 W → (W.cell? ⟨w.heap.size, 0, none⟩ = some (.int .i64 c.c0) ∧ W.cell? ⟨w.heap.size, 1, none⟩ = some (.int .i64 c.c1) ∧ W.cell? ⟨w.heap.size, 2, none⟩ = some (.int .i64 c.c2) ∧ W.cell? ⟨w.heap.size, 3, none⟩ = some (.int .i64 c.c3) ∧ W.cell? ⟨w.heap.size, 4, none⟩ = some (.int .i64 c.c4) ∧ W.cell? ⟨w.heap.size, 5, none⟩ = some (.int .i64 c.mks) ∧ W.cell? ⟨w.heap.size, 6, none⟩ = some (.int .i64 c.mus) ∧ W.cell? ⟨w.heap.size, 7, none⟩ = some (.int .i64 c.dq) ∧ W.cell? ⟨w.heap.size, 8, none⟩ = some (.int .i64 c.ch) ∧ W.cell? ⟨w.heap.size, 9, none⟩ = some (.int .i64 c.bu) ∧ W.cell? ⟨w.heap.size, 10, none⟩ = some (.int .i64 c.ro) ∧ W.cell? ⟨w.heap.size, 11, none⟩ = some (.int .i64 c.sw) ∧ W.cell? ⟨bA, 0, none⟩ = some (.int .i64 c.c0) ∧ W.cell? ⟨bA, 1, none⟩ = some (.int .i64 c.c1) ∧ W.cell? ⟨bA, 2, none⟩ = some (.int .i64 (min (c.c2 + 1) 12)) ∧ W.cell? ⟨bA, 3, none⟩ = some (.int .i64 c.c3) ∧ W.cell? ⟨bA, 4, none⟩ = some (.int .i64 c.c4) ∧ W.cell? ⟨bA, 5, none⟩ = some (.int .i64 c.mks) ∧ W.cell? ⟨bA, 6, none⟩ = some (.int .i64 c.mus) ∧ W.cell? ⟨bA, 7, none⟩ = some (.int .i64 c.dq) ∧ W.cell? ⟨bA, 8, none⟩ = some (.int .i64 c.ch) ∧ W.cell? ⟨bA, 9, none⟩ = some (.int .i64 c.bu) ∧ W.cell? ⟨bA, 10, none⟩ = some (.int .i64 c.ro) ∧ W.cell? ⟨bA, 11, none⟩ = some (.int .i64 c.sw) ∧ W.cell? ⟨bB, 0, none⟩ = some (.int .i64 c.c0) ∧ W.cell? ⟨bB, 1, none⟩ = some (.int .i64 c.c1) ∧ W.cell? ⟨bB, 2, none⟩ = some (.int .i64 c.c2) ∧ W.cell? ⟨bB, 3, none⟩ = some (.int .i64 c.c3) ∧ W.cell? ⟨bB, 4, none⟩ = some (.int .i64 c.c4) ∧ W.cell? ⟨bB, 5, none⟩ = some (.int .i64 c.mks) ∧ W.cell? ⟨bB, 6, none⟩ = some (.int .i64 c.mus) ∧ W.cell? ⟨bB, 7, none⟩ = some (.int .i64 c.dq) ∧ W.cell? ⟨bB, 8, none⟩ = some (.int .i64 (max (c.ch - 1) 1)) ∧ W.cell? ⟨bB, 9, none⟩ = some (.int .i64 c.bu) ∧ W.cell? ⟨bB, 10, none⟩ = some (.int .i64 c.ro) ∧ W.cell? ⟨bB, 11, none⟩ = some (.int .i64 c.sw) ∧ W.cell? ⟨bD, 0, none⟩ = some (.int .i64 c.c0) ∧ W.cell? ⟨bD, 1, none⟩ = some (.int .i64 c.c1) ∧ W.cell? ⟨bD, 2, none⟩ = some (.int .i64 c.c2) ∧ W.cell? ⟨bD, 3, none⟩ = some (.int .i64 c.c3) ∧ W.cell? ⟨bD, 4, none⟩ = some (.int .i64 c.c4) ∧ W.cell? ⟨bD, 5, none⟩ = some (.int .i64 (min (c.mks + 1) 4)) ∧ W.cell? ⟨bD, 6, none⟩ = some (.int .i64 c.mus) ∧ W.cell? ⟨bD, 7, none⟩ = some (.int .i64 c.dq) ∧ W.cell? ⟨bD, 8, none⟩ = some (.int .i64 c.ch) ∧ W.cell? ⟨bD, 9, none⟩ = some (.int .i64 c.bu) ∧ W.cell? ⟨bD, 10, none⟩ = some (.int .i64 c.ro) ∧ W.cell? ⟨bD, 11, none⟩ = some (.int .i64 c.sw))) := fun W hK => ⟨(Below.cell hK lqc).trans c0, (Below.cell hK lqc).trans c1, (Below.cell hK lqc).trans c2, (Below.cell hK lqc).trans c3, (Below.cell hK lqc).trans c4, (Below.cell hK lqc).trans c5, (Below.cell hK lqc).trans c6, (Below.cell hK lqc).trans c7, (Below.cell hK lqc).trans c8, (Below.cell hK lqc).trans c9, (Below.cell hK lqc).trans c10, (Below.cell hK lqc).trans c11, (Below.cell hK lqa).trans a0, (Below.cell hK lqa).trans a1, (Below.cell hK lqa).trans a2, (Below.cell hK lqa).trans a3, (Below.cell hK lqa).trans a4, (Below.cell hK lqa).trans a5, (Below.cell hK lqa).trans a6, (Below.cell hK lqa).trans a7, (Below.cell hK lqa).trans a8, (Below.cell hK lqa).trans a9, (Below.cell hK lqa).trans a10, (Below.cell hK lqa).trans a11, (Below.cell hK lqb).trans b0, (Below.cell hK lqb).trans b1, (Below.cell hK lqb).trans b2, (Below.cell hK lqb).trans b3, (Below.cell hK lqb).trans b4, (Below.cell hK lqb).trans b5, (Below.cell hK lqb).trans b6, (Below.cell hK lqb).trans b7, (Below.cell hK lqb).trans b8, (Below.cell hK lqb).trans b9, (Below.cell hK lqb).trans b10, (Below.cell hK lqb).trans b11, (Below.cell hK lqd).trans d0, (Below.cell hK lqd).trans d1, (Below.cell hK lqd).trans d2, (Below.cell hK lqd).trans d3, (Below.cell hK lqd).trans d4, (Below.cell hK lqd).trans d5, (Below.cell hK lqd).trans d6, (Below.cell hK lqd).trans d7, (Below.cell hK lqd).trans d8, (Below.cell hK lqd).trans d9, (Below.cell hK lqd).trans d10, (Below.cell hK lqd).trans d11⟩
  clear c0 c1 c2 c3 c4 c5 c6 c7 c8 c9 c10 c11 a0 a1 a2 a3 a4 a5 a6 a7 a8 a9 a10 a11 b0 b1 b2 b3 b4 b5 b6 b7 b8 b9 b10 b11 d0 d1 d2 d3 d4 d5 d6 d7 d8 d9 d10 d11
  go_region_held3 (fun w' => w'.cell? ⟨w.heap.size, 0, none⟩ = some (.int .i64 c.c0) ∧ w'.cell? ⟨w.heap.size, 1, none⟩ = some (.int .i64 c.c1) ∧ w'.cell? ⟨w.heap.size, 2, none⟩ = some (.int .i64 c.c2) ∧ w'.cell? ⟨w.heap.size, 3, none⟩ = some (.int .i64 c.c3) ∧ w'.cell? ⟨w.heap.size, 4, none⟩ = some (.int .i64 c.c4) ∧ w'.cell? ⟨w.heap.size, 5, none⟩ = some (.int .i64 c.mks) ∧ w'.cell? ⟨w.heap.size, 6, none⟩ = some (.int .i64 c.mus) ∧ w'.cell? ⟨w.heap.size, 7, none⟩ = some (.int .i64 c.dq) ∧ w'.cell? ⟨w.heap.size, 8, none⟩ = some (.int .i64 c.ch) ∧ w'.cell? ⟨w.heap.size, 9, none⟩ = some (.int .i64 c.bu) ∧ w'.cell? ⟨w.heap.size, 10, none⟩ = some (.int .i64 c.ro) ∧ w'.cell? ⟨w.heap.size, 11, none⟩ = some (.int .i64 c.sw) ∧ w'.cell? ⟨bA, 0, none⟩ = some (.int .i64 c.c0) ∧ w'.cell? ⟨bA, 1, none⟩ = some (.int .i64 c.c1) ∧ w'.cell? ⟨bA, 2, none⟩ = some (.int .i64 (min (c.c2 + 1) 12)) ∧ w'.cell? ⟨bA, 3, none⟩ = some (.int .i64 c.c3) ∧ w'.cell? ⟨bA, 4, none⟩ = some (.int .i64 c.c4) ∧ w'.cell? ⟨bA, 5, none⟩ = some (.int .i64 c.mks) ∧ w'.cell? ⟨bA, 6, none⟩ = some (.int .i64 c.mus) ∧ w'.cell? ⟨bA, 7, none⟩ = some (.int .i64 c.dq) ∧ w'.cell? ⟨bA, 8, none⟩ = some (.int .i64 c.ch) ∧ w'.cell? ⟨bA, 9, none⟩ = some (.int .i64 c.bu) ∧ w'.cell? ⟨bA, 10, none⟩ = some (.int .i64 c.ro) ∧ w'.cell? ⟨bA, 11, none⟩ = some (.int .i64 c.sw) ∧ w'.cell? ⟨bB, 0, none⟩ = some (.int .i64 c.c0) ∧ w'.cell? ⟨bB, 1, none⟩ = some (.int .i64 c.c1) ∧ w'.cell? ⟨bB, 2, none⟩ = some (.int .i64 c.c2) ∧ w'.cell? ⟨bB, 3, none⟩ = some (.int .i64 c.c3) ∧ w'.cell? ⟨bB, 4, none⟩ = some (.int .i64 c.c4) ∧ w'.cell? ⟨bB, 5, none⟩ = some (.int .i64 c.mks) ∧ w'.cell? ⟨bB, 6, none⟩ = some (.int .i64 c.mus) ∧ w'.cell? ⟨bB, 7, none⟩ = some (.int .i64 c.dq) ∧ w'.cell? ⟨bB, 8, none⟩ = some (.int .i64 (max (c.ch - 1) 1)) ∧ w'.cell? ⟨bB, 9, none⟩ = some (.int .i64 c.bu) ∧ w'.cell? ⟨bB, 10, none⟩ = some (.int .i64 c.ro) ∧ w'.cell? ⟨bB, 11, none⟩ = some (.int .i64 c.sw) ∧ w'.cell? ⟨bD, 0, none⟩ = some (.int .i64 c.c0) ∧ w'.cell? ⟨bD, 1, none⟩ = some (.int .i64 c.c1) ∧ w'.cell? ⟨bD, 2, none⟩ = some (.int .i64 c.c2) ∧ w'.cell? ⟨bD, 3, none⟩ = some (.int .i64 c.c3) ∧ w'.cell? ⟨bD, 4, none⟩ = some (.int .i64 c.c4) ∧ w'.cell? ⟨bD, 5, none⟩ = some (.int .i64 (min (c.mks + 1) 4)) ∧ w'.cell? ⟨bD, 6, none⟩ = some (.int .i64 c.mus) ∧ w'.cell? ⟨bD, 7, none⟩ = some (.int .i64 c.dq) ∧ w'.cell? ⟨bD, 8, none⟩ = some (.int .i64 c.ch) ∧ w'.cell? ⟨bD, 9, none⟩ = some (.int .i64 c.bu) ∧ w'.cell? ⟨bD, 10, none⟩ = some (.int .i64 c.ro) ∧ w'.cell? ⟨bD, 11, none⟩ = some (.int .i64 c.sw))
    (exact Hid.out HS _ hK)
    (first
      | (go_at_call 11; (with_reducible refine (Hid.out ZC _).mono ?_); rintro e w2 ⟨rfl, hk2⟩; replace hK := Kept.trans' hK hk2; clear hk2)
      | (go_at_call 11; (with_reducible refine (Hid.out ZA _).mono ?_); rintro e w2 ⟨rfl, hk2⟩; replace hK := Kept.trans' hK hk2; clear hk2)
      | (go_at_call 11; (with_reducible refine (Hid.out ZB _).mono ?_); rintro e w2 ⟨rfl, hk2⟩; replace hK := Kept.trans' hK hk2; clear hk2)
      | (go_at_call 11; (with_reducible refine (Hid.out ZD _).mono ?_); rintro e w2 ⟨rfl, hk2⟩; replace hK := Kept.trans' hK hk2; clear hk2)
      | (go_at_call 12; (with_reducible refine (Hid.out Z1 _).mono ?_); rintro e w2 ⟨rfl, hk2⟩; replace hK := Kept.trans' hK hk2; clear hk2)
      | (go_at_call 12; (with_reducible refine (Hid.out Z2 _).mono ?_); rintro e w2 ⟨rfl, hk2⟩; replace hK := Kept.trans' hK hk2; clear hk2))
  go_wp2_with fail
  go_ret
  exact ⟨rfl, hB4.trans' hK⟩

set_option maxHeartbeats 3200000 in
theorem grows_3 (c : Cfg) (k : Int) (w : World) (hg : Good c) (hk0 : 0 ≤ k) (hk1 : k ≤ 255) (hkm : k % 5 = 3) :
    Calls Try.prog 4 #[.agg #[.int .i64 c.c0, .int .i64 c.c1, .int .i64 c.c2, .int .i64 c.c3, .int .i64 c.c4, .int .i64 c.mks, .int .i64 c.mus, .int .i64 c.dq, .int .i64 c.ch, .int .i64 c.bu, .int .i64 c.ro, .int .i64 c.sw], .int .u8 k] w fun r w' => r = .returned (.bool true) ∧ Kept w w' := by
  have z1 : Hid (bTasksI c = tasksI c) := if_pos hg
  have z2 : Hid (bSlotsI c = slotsSumI c) := if_pos hg
  have z3 : Hid (bEventsI c = eventsI c) := if_pos hg
  have z4 : Hid (bWindowsI c = windowsI c) := if_pos hg
  have za : Hid (bWindowsI (cellMore3 c) = windowsI (cellMore3 c)) := if_pos (cellMore3_good hg)
  have zb : Hid (bWindowsI (chLess c) = windowsI (chLess c)) := if_pos (chLess_good hg)
  have zd : Hid (bWindowsI (mkMore c) = windowsI (mkMore c)) := if_pos (mkMore_good hg)
  have zs1 : Hid (bWindowsI c * wideI 1 = windowsI c) := by unfold Hid; rw [z4.out, show wideI 1 = 1 from by decide, Int.mul_one]
  have zs2 : Hid (bWindowsI c * wideI 2 = 2 * windowsI c) := by unfold Hid; rw [z4.out, show wideI 2 = 2 from by decide, Int.mul_comm]
  have HE : Hid (errI c = 0) := errI_yes hg
  have la := cellMore3_windows hg
  have lb := chLess_windows hg
  have ld := mkMore_windows hg
  have tb := tasks_between hg
  have el := events_least hg
  have e0 := (events_bound hg).1
  have e1 := (events_bound hg).2
  have t0 := (tasks_bound hg).1
  have t1 := (tasks_bound hg).2
  have s0 := (slotsSum_bound hg).1
  have s1 := (slotsSum_bound hg).2
  obtain ⟨tb0, tb1⟩ := tb
  obtain ⟨el0, el1⟩ := el
  have wmx : windowsI c ≤ 500000000 := by unfold windowsI; omega
  have w0 : 0 ≤ windowsI c := by omega
  obtain ⟨⟨h00, h01⟩, ⟨h10, h11⟩, ⟨h20, h21⟩, ⟨h30, h31⟩, ⟨h40, h41⟩, ⟨hm0, hm1⟩, _, _, ⟨hc0, hc1⟩, _⟩ := hg
  generalize tasksI c = T at *
  generalize slotsSumI c = S at *
  generalize eventsI c = E at *
  generalize windowsI c = Wi at *
  generalize windowsI (cellMore3 c) = Wa at *
  generalize windowsI (chLess c) = Wb at *
  generalize windowsI (mkMore c) = Wd at *
  go_enter Try.func4, Try.ntmps4
  go_wp2_with fail
  refine (awake_any _).mono ?_; rintro e w1 ⟨rfl, hk1⟩
  have hb : Blk w1 w.heap.size 24 [.int .i64 c.c0, .int .i64 c.c1, .int .i64 c.c2, .int .i64 c.c3, .int .i64 c.c4, .int .i64 c.mks, .int .i64 c.mus, .int .i64 c.dq, .int .i64 c.ch, .int .i64 c.bu, .int .i64 c.ro, .int .i64 c.sw] := hk1.blk (Blk.new w _ _)
  have hB : Kept w w1 := ((Below.refl _ _).alloc (Nat.le_refl _) _).trans (hk1.mono (by simp))
  have c0 := hb.cell 0
  have c1 := hb.cell 1
  have c2 := hb.cell 2
  have c3 := hb.cell 3
  have c4 := hb.cell 4
  have c5 := hb.cell 5
  have c6 := hb.cell 6
  have c7 := hb.cell 7
  have c8 := hb.cell 8
  have c9 := hb.cell 9
  have c10 := hb.cell 10
  have c11 := hb.cell 11
  go_wp2_with fail
  refine (model_any c _).mono ?_; rintro e w2 ⟨rfl, hk2⟩
  go_wp2_with fail
  refine (ref_is HE.out _).mono ?_; rintro e w3 ⟨rfl, hk3⟩
  replace hk2 := hk2.trans' hk3
  clear hk3
  replace hb := hb.kept hk2
  replace hB := hB.trans' hk2
  clear hk2 c0 c1 c2 c3 c4 c5 c6 c7 c8 c9 c10 c11
  have c0 := hb.cell 0
  have c1 := hb.cell 1
  have c2 := hb.cell 2
  have c3 := hb.cell 3
  have c4 := hb.cell 4
  have c5 := hb.cell 5
  have c6 := hb.cell 6
  have c7 := hb.cell 7
  have c8 := hb.cell 8
  have c9 := hb.cell 9
  have c10 := hb.cell 10
  have c11 := hb.cell 11
  have hlt := hb.lt
  go_wp2_with fail
  refine wp_loop_rounds 6 ?_
  iterate 6 (rw [rounds_succ]; go_wp2_with fail)
  refine (bT_is z1.out _).mono ?_; rintro e w2 ⟨rfl, hk2⟩
  replace hb := hb.kept hk2
  replace hB := hB.trans' hk2
  clear hk2 c0 c1 c2 c3 c4 c5 c6 c7 c8 c9 c10 c11
  have c0 := hb.cell 0
  have c1 := hb.cell 1
  have c2 := hb.cell 2
  have c3 := hb.cell 3
  have c4 := hb.cell 4
  have c5 := hb.cell 5
  have c6 := hb.cell 6
  have c7 := hb.cell 7
  have c8 := hb.cell 8
  have c9 := hb.cell 9
  have c10 := hb.cell 10
  have c11 := hb.cell 11
  have hlt := hb.lt
  go_wp2_with fail
  have x1 : IntKind.i64.wrap (c.c0 + c.c1 + c.c2 + c.c3 + c.c4 + S) = c.c0 + c.c1 + c.c2 + c.c3 + c.c4 + S := IntWalk.i64_in _ (by omega)
  have x2 : IntKind.i64.wrap (40 * T) = 40 * T := IntWalk.i64_in _ (by omega)
  have d1 : decide (T < c.c0 + c.c1 + c.c2 + c.c3 + c.c4) = false := by simp; omega
  have d2 : decide (c.c0 + c.c1 + c.c2 + c.c3 + c.c4 + S < T) = false := by simp; omega
  have d3 : decide (E < 40 * T) = false := by simp; omega
  have d4 : decide (Wi < E) = false := by simp; omega
  have hK : Kept w2 w2.drew := (Below.refl _ _).drew
  go_region_held3 (fun w' => w'.cell? ⟨w.heap.size, 0, none⟩ = some (.int .i64 c.c0) ∧ w'.cell? ⟨w.heap.size, 1, none⟩ = some (.int .i64 c.c1) ∧ w'.cell? ⟨w.heap.size, 2, none⟩ = some (.int .i64 c.c2) ∧ w'.cell? ⟨w.heap.size, 3, none⟩ = some (.int .i64 c.c3) ∧ w'.cell? ⟨w.heap.size, 4, none⟩ = some (.int .i64 c.c4) ∧ w'.cell? ⟨w.heap.size, 5, none⟩ = some (.int .i64 c.mks) ∧ w'.cell? ⟨w.heap.size, 6, none⟩ = some (.int .i64 c.mus) ∧ w'.cell? ⟨w.heap.size, 7, none⟩ = some (.int .i64 c.dq) ∧ w'.cell? ⟨w.heap.size, 8, none⟩ = some (.int .i64 c.ch) ∧ w'.cell? ⟨w.heap.size, 9, none⟩ = some (.int .i64 c.bu) ∧ w'.cell? ⟨w.heap.size, 10, none⟩ = some (.int .i64 c.ro) ∧ w'.cell? ⟨w.heap.size, 11, none⟩ = some (.int .i64 c.sw))
    (first | exact ⟨c0, c1, c2, c3, c4, c5, c6, c7, c8, c9, c10, c11⟩ | (have hcc := fun i => Below.cell hK (p := ⟨w.heap.size, i, none⟩) hlt; exact ⟨(hcc 0).trans c0, (hcc 1).trans c1, (hcc 2).trans c2, (hcc 3).trans c3, (hcc 4).trans c4, (hcc 5).trans c5, (hcc 6).trans c6, (hcc 7).trans c7, (hcc 8).trans c8, (hcc 9).trans c9, (hcc 10).trans c10, (hcc 11).trans c11⟩))
    (first
      | (go_at_call 9; refine (bS_is z2.out _).mono ?_; rintro e w2 ⟨rfl, hk2⟩; replace hK := Kept.trans' hK hk2; clear hk2)
      | (go_at_call 10; refine (bE_is z3.out _).mono ?_; rintro e w2 ⟨rfl, hk2⟩; replace hK := Kept.trans' hK hk2; clear hk2)
      | (go_at_call 11; refine (bW_is z4.out _).mono ?_; rintro e w2 ⟨rfl, hk2⟩; replace hK := Kept.trans' hK hk2; clear hk2))
  replace hb := hb.kept hK
  replace hB := hB.trans' hK
  clear x1 x2 d1 d2 d3 d4 hK c0 c1 c2 c3 c4 c5 c6 c7 c8 c9 c10 c11 hlt
  have c0 := hb.cell 0
  have c1 := hb.cell 1
  have c2 := hb.cell 2
  have c3 := hb.cell 3
  have c4 := hb.cell 4
  have c5 := hb.cell 5
  have c6 := hb.cell 6
  have c7 := hb.cell 7
  have c8 := hb.cell 8
  have c9 := hb.cell 9
  have c10 := hb.cell 10
  have c11 := hb.cell 11
  have hlt := hb.lt
  go_wp2_with fail
  have ZA : Hid (∀ W, Calls Try.prog 11 #[.agg #[.int .i64 c.c0, .int .i64 c.c1, .int .i64 c.c2, .int .i64 (min (c.c3 + 1) 12), .int .i64 c.c4, .int .i64 c.mks, .int .i64 c.mus, .int .i64 c.dq, .int .i64 c.ch, .int .i64 c.bu, .int .i64 c.ro, .int .i64 c.sw]] W fun e w' => e = .returned (.int .i64 Wa) ∧ Kept W w') := fun W => bW_is za.out W
  have ZB : Hid (∀ W, Calls Try.prog 11 #[.agg #[.int .i64 c.c0, .int .i64 c.c1, .int .i64 c.c2, .int .i64 c.c3, .int .i64 c.c4, .int .i64 c.mks, .int .i64 c.mus, .int .i64 c.dq, .int .i64 (max (c.ch - 1) 1), .int .i64 c.bu, .int .i64 c.ro, .int .i64 c.sw]] W fun e w' => e = .returned (.int .i64 Wb) ∧ Kept W w') := fun W => bW_is zb.out W
  have ZD : Hid (∀ W, Calls Try.prog 11 #[.agg #[.int .i64 c.c0, .int .i64 c.c1, .int .i64 c.c2, .int .i64 c.c3, .int .i64 c.c4, .int .i64 (min (c.mks + 1) 4), .int .i64 c.mus, .int .i64 c.dq, .int .i64 c.ch, .int .i64 c.bu, .int .i64 c.ro, .int .i64 c.sw]] W fun e w' => e = .returned (.int .i64 Wd) ∧ Kept W w') := fun W => bW_is zd.out W
  have ZC : Hid (∀ W, Calls Try.prog 11 #[.agg #[.int .i64 c.c0, .int .i64 c.c1, .int .i64 c.c2, .int .i64 c.c3, .int .i64 c.c4, .int .i64 c.mks, .int .i64 c.mus, .int .i64 c.dq, .int .i64 c.ch, .int .i64 c.bu, .int .i64 c.ro, .int .i64 c.sw]] W fun e w' => e = .returned (.int .i64 Wi) ∧ Kept W w') := fun W => bW_is z4.out W
  have Z1 : Hid (∀ W, Calls Try.prog 12 #[.agg #[.int .i64 c.c0, .int .i64 c.c1, .int .i64 c.c2, .int .i64 c.c3, .int .i64 c.c4, .int .i64 c.mks, .int .i64 c.mus, .int .i64 c.dq, .int .i64 c.ch, .int .i64 c.bu, .int .i64 c.ro, .int .i64 c.sw], .int .i64 1] W fun e w' => e = .returned (.int .i64 Wi) ∧ Kept W w') := fun W => bSt_is zs1.out W
  have Z2 : Hid (∀ W, Calls Try.prog 12 #[.agg #[.int .i64 c.c0, .int .i64 c.c1, .int .i64 c.c2, .int .i64 c.c3, .int .i64 c.c4, .int .i64 c.mks, .int .i64 c.mus, .int .i64 c.dq, .int .i64 c.ch, .int .i64 c.bu, .int .i64 c.ro, .int .i64 c.sw], .int .i64 2] W fun e w' => e = .returned (.int .i64 (2 * Wi)) ∧ Kept W w') := fun W => bSt_is zs2.out W
  obtain ⟨W4, hW4⟩ : ∃ W4, W4 = ((w2.alloc (.cells #[.int .i64 c.c0, .int .i64 c.c1, .int .i64 c.c2, .int .i64 (min (c.c3 + 1) 12), .int .i64 c.c4, .int .i64 c.mks, .int .i64 c.mus, .int .i64 c.dq, .int .i64 c.ch, .int .i64 c.bu, .int .i64 c.ro, .int .i64 c.sw] 24)).alloc (.cells #[.int .i64 c.c0, .int .i64 c.c1, .int .i64 c.c2, .int .i64 c.c3, .int .i64 c.c4, .int .i64 c.mks, .int .i64 c.mus, .int .i64 c.dq, .int .i64 (max (c.ch - 1) 1), .int .i64 c.bu, .int .i64 c.ro, .int .i64 c.sw] 24)).alloc (.cells #[.int .i64 c.c0, .int .i64 c.c1, .int .i64 c.c2, .int .i64 c.c3, .int .i64 c.c4, .int .i64 (min (c.mks + 1) 4), .int .i64 c.mus, .int .i64 c.dq, .int .i64 c.ch, .int .i64 c.bu, .int .i64 c.ro, .int .i64 c.sw] 24) := ⟨_, rfl⟩
  have hA : Blk W4 w2.heap.size 24 [.int .i64 c.c0, .int .i64 c.c1, .int .i64 c.c2, .int .i64 (min (c.c3 + 1) 12), .int .i64 c.c4, .int .i64 c.mks, .int .i64 c.mus, .int .i64 c.dq, .int .i64 c.ch, .int .i64 c.bu, .int .i64 c.ro, .int .i64 c.sw] := by rw [hW4]; exact ((Blk.new w2 _ _).alloc _).alloc _
  have hBB : Blk W4 (w2.heap.size + 1) 24 [.int .i64 c.c0, .int .i64 c.c1, .int .i64 c.c2, .int .i64 c.c3, .int .i64 c.c4, .int .i64 c.mks, .int .i64 c.mus, .int .i64 c.dq, .int .i64 (max (c.ch - 1) 1), .int .i64 c.bu, .int .i64 c.ro, .int .i64 c.sw] := by rw [hW4]; have := (Blk.new (w2.alloc (.cells #[.int .i64 c.c0, .int .i64 c.c1, .int .i64 c.c2, .int .i64 (min (c.c3 + 1) 12), .int .i64 c.c4, .int .i64 c.mks, .int .i64 c.mus, .int .i64 c.dq, .int .i64 c.ch, .int .i64 c.bu, .int .i64 c.ro, .int .i64 c.sw] 24)) 24 [.int .i64 c.c0, .int .i64 c.c1, .int .i64 c.c2, .int .i64 c.c3, .int .i64 c.c4, .int .i64 c.mks, .int .i64 c.mus, .int .i64 c.dq, .int .i64 (max (c.ch - 1) 1), .int .i64 c.bu, .int .i64 c.ro, .int .i64 c.sw]).alloc (.cells #[.int .i64 c.c0, .int .i64 c.c1, .int .i64 c.c2, .int .i64 c.c3, .int .i64 c.c4, .int .i64 (min (c.mks + 1) 4), .int .i64 c.mus, .int .i64 c.dq, .int .i64 c.ch, .int .i64 c.bu, .int .i64 c.ro, .int .i64 c.sw] 24); simpa using this
  have hD : Blk W4 (w2.heap.size + 1 + 1) 24 [.int .i64 c.c0, .int .i64 c.c1, .int .i64 c.c2, .int .i64 c.c3, .int .i64 c.c4, .int .i64 (min (c.mks + 1) 4), .int .i64 c.mus, .int .i64 c.dq, .int .i64 c.ch, .int .i64 c.bu, .int .i64 c.ro, .int .i64 c.sw] := by rw [hW4]; have := Blk.new ((w2.alloc (.cells #[.int .i64 c.c0, .int .i64 c.c1, .int .i64 c.c2, .int .i64 (min (c.c3 + 1) 12), .int .i64 c.c4, .int .i64 c.mks, .int .i64 c.mus, .int .i64 c.dq, .int .i64 c.ch, .int .i64 c.bu, .int .i64 c.ro, .int .i64 c.sw] 24)).alloc (.cells #[.int .i64 c.c0, .int .i64 c.c1, .int .i64 c.c2, .int .i64 c.c3, .int .i64 c.c4, .int .i64 c.mks, .int .i64 c.mus, .int .i64 c.dq, .int .i64 (max (c.ch - 1) 1), .int .i64 c.bu, .int .i64 c.ro, .int .i64 c.sw] 24)) 24 [.int .i64 c.c0, .int .i64 c.c1, .int .i64 c.c2, .int .i64 c.c3, .int .i64 c.c4, .int .i64 (min (c.mks + 1) 4), .int .i64 c.mus, .int .i64 c.dq, .int .i64 c.ch, .int .i64 c.bu, .int .i64 c.ro, .int .i64 c.sw]; simpa using this
  have hC : Blk W4 w.heap.size 24 [.int .i64 c.c0, .int .i64 c.c1, .int .i64 c.c2, .int .i64 c.c3, .int .i64 c.c4, .int .i64 c.mks, .int .i64 c.mus, .int .i64 c.dq, .int .i64 c.ch, .int .i64 c.bu, .int .i64 c.ro, .int .i64 c.sw] := by rw [hW4]; exact ((hb.alloc _).alloc _).alloc _
  have hB4 : Kept w W4 := by rw [hW4]; exact hB.trans' (((Below.refl _ _).alloc (Nat.le_refl _) _ |>.alloc (by simp) _).alloc (by simp; omega) _)
  rw [← hW4]
  clear hW4 c0 c1 c2 c3 c4 c5 c6 c7 c8 c9 c10 c11 hlt hb hB
  generalize w2.heap.size = bA at *
  generalize bA + 1 = bB at *
  generalize bB + 1 = bD at *
  have lqc := hC.lt
  have c0 := hC.cell 0
  have c1 := hC.cell 1
  have c2 := hC.cell 2
  have c3 := hC.cell 3
  have c4 := hC.cell 4
  have c5 := hC.cell 5
  have c6 := hC.cell 6
  have c7 := hC.cell 7
  have c8 := hC.cell 8
  have c9 := hC.cell 9
  have c10 := hC.cell 10
  have c11 := hC.cell 11
  have lqa := hA.lt
  have a0 := hA.cell 0
  have a1 := hA.cell 1
  have a2 := hA.cell 2
  have a3 := hA.cell 3
  have a4 := hA.cell 4
  have a5 := hA.cell 5
  have a6 := hA.cell 6
  have a7 := hA.cell 7
  have a8 := hA.cell 8
  have a9 := hA.cell 9
  have a10 := hA.cell 10
  have a11 := hA.cell 11
  have lqb := hBB.lt
  have b0 := hBB.cell 0
  have b1 := hBB.cell 1
  have b2 := hBB.cell 2
  have b3 := hBB.cell 3
  have b4 := hBB.cell 4
  have b5 := hBB.cell 5
  have b6 := hBB.cell 6
  have b7 := hBB.cell 7
  have b8 := hBB.cell 8
  have b9 := hBB.cell 9
  have b10 := hBB.cell 10
  have b11 := hBB.cell 11
  have lqd := hD.lt
  have d0 := hD.cell 0
  have d1 := hD.cell 1
  have d2 := hD.cell 2
  have d3 := hD.cell 3
  have d4 := hD.cell 4
  have d5 := hD.cell 5
  have d6 := hD.cell 6
  have d7 := hD.cell 7
  have d8 := hD.cell 8
  have d9 := hD.cell 9
  have d10 := hD.cell 10
  have d11 := hD.cell 11
  have x1 : IntKind.i64.wrap (2 * Wi) = 2 * Wi := IntWalk.i64_in _ (by omega)
  have dax : decide (Wi ≤ Wa) = true := by simp; omega
  have dbx : decide (Wi ≤ Wb) = true := by simp; omega
  have ddx : decide (Wi ≤ Wd) = true := by simp; omega
  have hK : Kept W4 W4.drew := (Below.refl _ _).drew
  clear la lb ld
  have HS : Hid (∀ W, Kept W4 W → (W.cell? ⟨w.heap.size, 0, none⟩ = some (.int .i64 c.c0) ∧ W.cell? ⟨w.heap.size, 1, none⟩ = some (.int .i64 c.c1) ∧ W.cell? ⟨w.heap.size, 2, none⟩ = some (.int .i64 c.c2) ∧ W.cell? ⟨w.heap.size, 3, none⟩ = some (.int .i64 c.c3) ∧ W.cell? ⟨w.heap.size, 4, none⟩ = some (.int .i64 c.c4) ∧ W.cell? ⟨w.heap.size, 5, none⟩ = some (.int .i64 c.mks) ∧ W.cell? ⟨w.heap.size, 6, none⟩ = some (.int .i64 c.mus) ∧ W.cell? ⟨w.heap.size, 7, none⟩ = some (.int .i64 c.dq) ∧ W.cell? ⟨w.heap.size, 8, none⟩ = some (.int .i64 c.ch) ∧ W.cell? ⟨w.heap.size, 9, none⟩ = some (.int .i64 c.bu) ∧ W.cell? ⟨w.heap.size, 10, none⟩ = some (.int .i64 c.ro) ∧ W.cell? ⟨w.heap.size, 11, none⟩ = some (.int .i64 c.sw) ∧ W.cell? ⟨bA, 0, none⟩ = some (.int .i64 c.c0) ∧ W.cell? ⟨bA, 1, none⟩ = some (.int .i64 c.c1) ∧ W.cell? ⟨bA, 2, none⟩ = some (.int .i64 c.c2) ∧ W.cell? ⟨bA, 3, none⟩ = some (.int .i64 (min (c.c3 + 1) 12)) ∧ W.cell? ⟨bA, 4, none⟩ = some (.int .i64 c.c4) ∧ W.cell? ⟨bA, 5, none⟩ = some (.int .i64 c.mks) ∧ W.cell? ⟨bA, 6, none⟩ = some (.int .i64 c.mus) ∧ W.cell? ⟨bA, 7, none⟩ = some (.int .i64 c.dq) ∧ W.cell? ⟨bA, 8, none⟩ = some (.int .i64 c.ch) ∧ W.cell? ⟨bA, 9, none⟩ = some (.int .i64 c.bu) ∧ W.cell? ⟨bA, 10, none⟩ = some (.int .i64 c.ro) ∧ W.cell? ⟨bA, 11, none⟩ = some (.int .i64 c.sw) ∧ W.cell? ⟨bB, 0, none⟩ = some (.int .i64 c.c0) ∧ W.cell? ⟨bB, 1, none⟩ = some (.int .i64 c.c1) ∧ W.cell? ⟨bB, 2, none⟩ = some (.int .i64 c.c2) ∧ W.cell? ⟨bB, 3, none⟩ = some (.int .i64 c.c3) ∧ W.cell? ⟨bB, 4, none⟩ = some (.int .i64 c.c4) ∧ W.cell? ⟨bB, 5, none⟩ = some (.int .i64 c.mks) ∧ W.cell? ⟨bB, 6, none⟩ = some (.int .i64 c.mus) ∧ W.cell? ⟨bB, 7, none⟩ = some (.int .i64 c.dq) ∧ W.cell? ⟨bB, 8, none⟩ = some (.int .i64 (max (c.ch - 1) 1)) ∧ W.cell? ⟨bB, 9, none⟩ = some (.int .i64 c.bu) ∧ W.cell? ⟨bB, 10, none⟩ = some (.int .i64 c.ro) ∧ W.cell? ⟨bB, 11, none⟩ = some (.int .i64 c.sw) ∧ W.cell? ⟨bD, 0, none⟩ = some (.int .i64 c.c0) ∧ W.cell? ⟨bD, 1, none⟩ = some (.int .i64 c.c1) ∧ W.cell? ⟨bD, 2, none⟩ = some (.int .i64 c.c2) ∧ W.cell? ⟨bD, 3, none⟩ = some (.int .i64 c.c3) ∧ W.cell? ⟨bD, 4, none⟩ = some (.int .i64 c.c4) ∧ W.cell? ⟨bD, 5, none⟩ = some (.int .i64 (min (c.mks + 1) 4)) ∧ W.cell? ⟨bD, 6, none⟩ = some (.int .i64 c.mus) ∧ W.cell? ⟨bD, 7, none⟩ = some (.int .i64 c.dq) ∧ W.cell? ⟨bD, 8, none⟩ = some (.int .i64 c.ch) ∧ W.cell? ⟨bD, 9, none⟩ = some (.int .i64 c.bu) ∧ W.cell? ⟨bD, 10, none⟩ = some (.int .i64 c.ro) ∧ W.cell? ⟨bD, 11, none⟩ = some (.int .i64 c.sw))) := fun W hK => ⟨(Below.cell hK lqc).trans c0, (Below.cell hK lqc).trans c1, (Below.cell hK lqc).trans c2, (Below.cell hK lqc).trans c3, (Below.cell hK lqc).trans c4, (Below.cell hK lqc).trans c5, (Below.cell hK lqc).trans c6, (Below.cell hK lqc).trans c7, (Below.cell hK lqc).trans c8, (Below.cell hK lqc).trans c9, (Below.cell hK lqc).trans c10, (Below.cell hK lqc).trans c11, (Below.cell hK lqa).trans a0, (Below.cell hK lqa).trans a1, (Below.cell hK lqa).trans a2, (Below.cell hK lqa).trans a3, (Below.cell hK lqa).trans a4, (Below.cell hK lqa).trans a5, (Below.cell hK lqa).trans a6, (Below.cell hK lqa).trans a7, (Below.cell hK lqa).trans a8, (Below.cell hK lqa).trans a9, (Below.cell hK lqa).trans a10, (Below.cell hK lqa).trans a11, (Below.cell hK lqb).trans b0, (Below.cell hK lqb).trans b1, (Below.cell hK lqb).trans b2, (Below.cell hK lqb).trans b3, (Below.cell hK lqb).trans b4, (Below.cell hK lqb).trans b5, (Below.cell hK lqb).trans b6, (Below.cell hK lqb).trans b7, (Below.cell hK lqb).trans b8, (Below.cell hK lqb).trans b9, (Below.cell hK lqb).trans b10, (Below.cell hK lqb).trans b11, (Below.cell hK lqd).trans d0, (Below.cell hK lqd).trans d1, (Below.cell hK lqd).trans d2, (Below.cell hK lqd).trans d3, (Below.cell hK lqd).trans d4, (Below.cell hK lqd).trans d5, (Below.cell hK lqd).trans d6, (Below.cell hK lqd).trans d7, (Below.cell hK lqd).trans d8, (Below.cell hK lqd).trans d9, (Below.cell hK lqd).trans d10, (Below.cell hK lqd).trans d11⟩
  clear c0 c1 c2 c3 c4 c5 c6 c7 c8 c9 c10 c11 a0 a1 a2 a3 a4 a5 a6 a7 a8 a9 a10 a11 b0 b1 b2 b3 b4 b5 b6 b7 b8 b9 b10 b11 d0 d1 d2 d3 d4 d5 d6 d7 d8 d9 d10 d11
  go_region_held3 (fun w' => w'.cell? ⟨w.heap.size, 0, none⟩ = some (.int .i64 c.c0) ∧ w'.cell? ⟨w.heap.size, 1, none⟩ = some (.int .i64 c.c1) ∧ w'.cell? ⟨w.heap.size, 2, none⟩ = some (.int .i64 c.c2) ∧ w'.cell? ⟨w.heap.size, 3, none⟩ = some (.int .i64 c.c3) ∧ w'.cell? ⟨w.heap.size, 4, none⟩ = some (.int .i64 c.c4) ∧ w'.cell? ⟨w.heap.size, 5, none⟩ = some (.int .i64 c.mks) ∧ w'.cell? ⟨w.heap.size, 6, none⟩ = some (.int .i64 c.mus) ∧ w'.cell? ⟨w.heap.size, 7, none⟩ = some (.int .i64 c.dq) ∧ w'.cell? ⟨w.heap.size, 8, none⟩ = some (.int .i64 c.ch) ∧ w'.cell? ⟨w.heap.size, 9, none⟩ = some (.int .i64 c.bu) ∧ w'.cell? ⟨w.heap.size, 10, none⟩ = some (.int .i64 c.ro) ∧ w'.cell? ⟨w.heap.size, 11, none⟩ = some (.int .i64 c.sw) ∧ w'.cell? ⟨bA, 0, none⟩ = some (.int .i64 c.c0) ∧ w'.cell? ⟨bA, 1, none⟩ = some (.int .i64 c.c1) ∧ w'.cell? ⟨bA, 2, none⟩ = some (.int .i64 c.c2) ∧ w'.cell? ⟨bA, 3, none⟩ = some (.int .i64 (min (c.c3 + 1) 12)) ∧ w'.cell? ⟨bA, 4, none⟩ = some (.int .i64 c.c4) ∧ w'.cell? ⟨bA, 5, none⟩ = some (.int .i64 c.mks) ∧ w'.cell? ⟨bA, 6, none⟩ = some (.int .i64 c.mus) ∧ w'.cell? ⟨bA, 7, none⟩ = some (.int .i64 c.dq) ∧ w'.cell? ⟨bA, 8, none⟩ = some (.int .i64 c.ch) ∧ w'.cell? ⟨bA, 9, none⟩ = some (.int .i64 c.bu) ∧ w'.cell? ⟨bA, 10, none⟩ = some (.int .i64 c.ro) ∧ w'.cell? ⟨bA, 11, none⟩ = some (.int .i64 c.sw) ∧ w'.cell? ⟨bB, 0, none⟩ = some (.int .i64 c.c0) ∧ w'.cell? ⟨bB, 1, none⟩ = some (.int .i64 c.c1) ∧ w'.cell? ⟨bB, 2, none⟩ = some (.int .i64 c.c2) ∧ w'.cell? ⟨bB, 3, none⟩ = some (.int .i64 c.c3) ∧ w'.cell? ⟨bB, 4, none⟩ = some (.int .i64 c.c4) ∧ w'.cell? ⟨bB, 5, none⟩ = some (.int .i64 c.mks) ∧ w'.cell? ⟨bB, 6, none⟩ = some (.int .i64 c.mus) ∧ w'.cell? ⟨bB, 7, none⟩ = some (.int .i64 c.dq) ∧ w'.cell? ⟨bB, 8, none⟩ = some (.int .i64 (max (c.ch - 1) 1)) ∧ w'.cell? ⟨bB, 9, none⟩ = some (.int .i64 c.bu) ∧ w'.cell? ⟨bB, 10, none⟩ = some (.int .i64 c.ro) ∧ w'.cell? ⟨bB, 11, none⟩ = some (.int .i64 c.sw) ∧ w'.cell? ⟨bD, 0, none⟩ = some (.int .i64 c.c0) ∧ w'.cell? ⟨bD, 1, none⟩ = some (.int .i64 c.c1) ∧ w'.cell? ⟨bD, 2, none⟩ = some (.int .i64 c.c2) ∧ w'.cell? ⟨bD, 3, none⟩ = some (.int .i64 c.c3) ∧ w'.cell? ⟨bD, 4, none⟩ = some (.int .i64 c.c4) ∧ w'.cell? ⟨bD, 5, none⟩ = some (.int .i64 (min (c.mks + 1) 4)) ∧ w'.cell? ⟨bD, 6, none⟩ = some (.int .i64 c.mus) ∧ w'.cell? ⟨bD, 7, none⟩ = some (.int .i64 c.dq) ∧ w'.cell? ⟨bD, 8, none⟩ = some (.int .i64 c.ch) ∧ w'.cell? ⟨bD, 9, none⟩ = some (.int .i64 c.bu) ∧ w'.cell? ⟨bD, 10, none⟩ = some (.int .i64 c.ro) ∧ w'.cell? ⟨bD, 11, none⟩ = some (.int .i64 c.sw))
    (exact Hid.out HS _ hK)
    (first
      | (go_at_call 11; (with_reducible refine (Hid.out ZC _).mono ?_); rintro e w2 ⟨rfl, hk2⟩; replace hK := Kept.trans' hK hk2; clear hk2)
      | (go_at_call 11; (with_reducible refine (Hid.out ZA _).mono ?_); rintro e w2 ⟨rfl, hk2⟩; replace hK := Kept.trans' hK hk2; clear hk2)
      | (go_at_call 11; (with_reducible refine (Hid.out ZB _).mono ?_); rintro e w2 ⟨rfl, hk2⟩; replace hK := Kept.trans' hK hk2; clear hk2)
      | (go_at_call 11; (with_reducible refine (Hid.out ZD _).mono ?_); rintro e w2 ⟨rfl, hk2⟩; replace hK := Kept.trans' hK hk2; clear hk2)
      | (go_at_call 12; (with_reducible refine (Hid.out Z1 _).mono ?_); rintro e w2 ⟨rfl, hk2⟩; replace hK := Kept.trans' hK hk2; clear hk2)
      | (go_at_call 12; (with_reducible refine (Hid.out Z2 _).mono ?_); rintro e w2 ⟨rfl, hk2⟩; replace hK := Kept.trans' hK hk2; clear hk2))
  go_wp2_with fail
  go_ret
  exact ⟨rfl, hB4.trans' hK⟩

set_option maxHeartbeats 3200000 in
theorem grows_4 (c : Cfg) (k : Int) (w : World) (hg : Good c) (hk0 : 0 ≤ k) (hk1 : k ≤ 255) (hkm : k % 5 = 4) :
    Calls Try.prog 4 #[.agg #[.int .i64 c.c0, .int .i64 c.c1, .int .i64 c.c2, .int .i64 c.c3, .int .i64 c.c4, .int .i64 c.mks, .int .i64 c.mus, .int .i64 c.dq, .int .i64 c.ch, .int .i64 c.bu, .int .i64 c.ro, .int .i64 c.sw], .int .u8 k] w fun r w' => r = .returned (.bool true) ∧ Kept w w' := by
  have z1 : Hid (bTasksI c = tasksI c) := if_pos hg
  have z2 : Hid (bSlotsI c = slotsSumI c) := if_pos hg
  have z3 : Hid (bEventsI c = eventsI c) := if_pos hg
  have z4 : Hid (bWindowsI c = windowsI c) := if_pos hg
  have za : Hid (bWindowsI (cellMore4 c) = windowsI (cellMore4 c)) := if_pos (cellMore4_good hg)
  have zb : Hid (bWindowsI (chLess c) = windowsI (chLess c)) := if_pos (chLess_good hg)
  have zd : Hid (bWindowsI (mkMore c) = windowsI (mkMore c)) := if_pos (mkMore_good hg)
  have zs1 : Hid (bWindowsI c * wideI 1 = windowsI c) := by unfold Hid; rw [z4.out, show wideI 1 = 1 from by decide, Int.mul_one]
  have zs2 : Hid (bWindowsI c * wideI 2 = 2 * windowsI c) := by unfold Hid; rw [z4.out, show wideI 2 = 2 from by decide, Int.mul_comm]
  have HE : Hid (errI c = 0) := errI_yes hg
  have la := cellMore4_windows hg
  have lb := chLess_windows hg
  have ld := mkMore_windows hg
  have tb := tasks_between hg
  have el := events_least hg
  have e0 := (events_bound hg).1
  have e1 := (events_bound hg).2
  have t0 := (tasks_bound hg).1
  have t1 := (tasks_bound hg).2
  have s0 := (slotsSum_bound hg).1
  have s1 := (slotsSum_bound hg).2
  obtain ⟨tb0, tb1⟩ := tb
  obtain ⟨el0, el1⟩ := el
  have wmx : windowsI c ≤ 500000000 := by unfold windowsI; omega
  have w0 : 0 ≤ windowsI c := by omega
  obtain ⟨⟨h00, h01⟩, ⟨h10, h11⟩, ⟨h20, h21⟩, ⟨h30, h31⟩, ⟨h40, h41⟩, ⟨hm0, hm1⟩, _, _, ⟨hc0, hc1⟩, _⟩ := hg
  generalize tasksI c = T at *
  generalize slotsSumI c = S at *
  generalize eventsI c = E at *
  generalize windowsI c = Wi at *
  generalize windowsI (cellMore4 c) = Wa at *
  generalize windowsI (chLess c) = Wb at *
  generalize windowsI (mkMore c) = Wd at *
  go_enter Try.func4, Try.ntmps4
  go_wp2_with fail
  refine (awake_any _).mono ?_; rintro e w1 ⟨rfl, hk1⟩
  have hb : Blk w1 w.heap.size 24 [.int .i64 c.c0, .int .i64 c.c1, .int .i64 c.c2, .int .i64 c.c3, .int .i64 c.c4, .int .i64 c.mks, .int .i64 c.mus, .int .i64 c.dq, .int .i64 c.ch, .int .i64 c.bu, .int .i64 c.ro, .int .i64 c.sw] := hk1.blk (Blk.new w _ _)
  have hB : Kept w w1 := ((Below.refl _ _).alloc (Nat.le_refl _) _).trans (hk1.mono (by simp))
  have c0 := hb.cell 0
  have c1 := hb.cell 1
  have c2 := hb.cell 2
  have c3 := hb.cell 3
  have c4 := hb.cell 4
  have c5 := hb.cell 5
  have c6 := hb.cell 6
  have c7 := hb.cell 7
  have c8 := hb.cell 8
  have c9 := hb.cell 9
  have c10 := hb.cell 10
  have c11 := hb.cell 11
  go_wp2_with fail
  refine (model_any c _).mono ?_; rintro e w2 ⟨rfl, hk2⟩
  go_wp2_with fail
  refine (ref_is HE.out _).mono ?_; rintro e w3 ⟨rfl, hk3⟩
  replace hk2 := hk2.trans' hk3
  clear hk3
  replace hb := hb.kept hk2
  replace hB := hB.trans' hk2
  clear hk2 c0 c1 c2 c3 c4 c5 c6 c7 c8 c9 c10 c11
  have c0 := hb.cell 0
  have c1 := hb.cell 1
  have c2 := hb.cell 2
  have c3 := hb.cell 3
  have c4 := hb.cell 4
  have c5 := hb.cell 5
  have c6 := hb.cell 6
  have c7 := hb.cell 7
  have c8 := hb.cell 8
  have c9 := hb.cell 9
  have c10 := hb.cell 10
  have c11 := hb.cell 11
  have hlt := hb.lt
  go_wp2_with fail
  refine wp_loop_rounds 6 ?_
  iterate 6 (rw [rounds_succ]; go_wp2_with fail)
  refine (bT_is z1.out _).mono ?_; rintro e w2 ⟨rfl, hk2⟩
  replace hb := hb.kept hk2
  replace hB := hB.trans' hk2
  clear hk2 c0 c1 c2 c3 c4 c5 c6 c7 c8 c9 c10 c11
  have c0 := hb.cell 0
  have c1 := hb.cell 1
  have c2 := hb.cell 2
  have c3 := hb.cell 3
  have c4 := hb.cell 4
  have c5 := hb.cell 5
  have c6 := hb.cell 6
  have c7 := hb.cell 7
  have c8 := hb.cell 8
  have c9 := hb.cell 9
  have c10 := hb.cell 10
  have c11 := hb.cell 11
  have hlt := hb.lt
  go_wp2_with fail
  have x1 : IntKind.i64.wrap (c.c0 + c.c1 + c.c2 + c.c3 + c.c4 + S) = c.c0 + c.c1 + c.c2 + c.c3 + c.c4 + S := IntWalk.i64_in _ (by omega)
  have x2 : IntKind.i64.wrap (40 * T) = 40 * T := IntWalk.i64_in _ (by omega)
  have d1 : decide (T < c.c0 + c.c1 + c.c2 + c.c3 + c.c4) = false := by simp; omega
  have d2 : decide (c.c0 + c.c1 + c.c2 + c.c3 + c.c4 + S < T) = false := by simp; omega
  have d3 : decide (E < 40 * T) = false := by simp; omega
  have d4 : decide (Wi < E) = false := by simp; omega
  have hK : Kept w2 w2.drew := (Below.refl _ _).drew
  go_region_held3 (fun w' => w'.cell? ⟨w.heap.size, 0, none⟩ = some (.int .i64 c.c0) ∧ w'.cell? ⟨w.heap.size, 1, none⟩ = some (.int .i64 c.c1) ∧ w'.cell? ⟨w.heap.size, 2, none⟩ = some (.int .i64 c.c2) ∧ w'.cell? ⟨w.heap.size, 3, none⟩ = some (.int .i64 c.c3) ∧ w'.cell? ⟨w.heap.size, 4, none⟩ = some (.int .i64 c.c4) ∧ w'.cell? ⟨w.heap.size, 5, none⟩ = some (.int .i64 c.mks) ∧ w'.cell? ⟨w.heap.size, 6, none⟩ = some (.int .i64 c.mus) ∧ w'.cell? ⟨w.heap.size, 7, none⟩ = some (.int .i64 c.dq) ∧ w'.cell? ⟨w.heap.size, 8, none⟩ = some (.int .i64 c.ch) ∧ w'.cell? ⟨w.heap.size, 9, none⟩ = some (.int .i64 c.bu) ∧ w'.cell? ⟨w.heap.size, 10, none⟩ = some (.int .i64 c.ro) ∧ w'.cell? ⟨w.heap.size, 11, none⟩ = some (.int .i64 c.sw))
    (first | exact ⟨c0, c1, c2, c3, c4, c5, c6, c7, c8, c9, c10, c11⟩ | (have hcc := fun i => Below.cell hK (p := ⟨w.heap.size, i, none⟩) hlt; exact ⟨(hcc 0).trans c0, (hcc 1).trans c1, (hcc 2).trans c2, (hcc 3).trans c3, (hcc 4).trans c4, (hcc 5).trans c5, (hcc 6).trans c6, (hcc 7).trans c7, (hcc 8).trans c8, (hcc 9).trans c9, (hcc 10).trans c10, (hcc 11).trans c11⟩))
    (first
      | (go_at_call 9; refine (bS_is z2.out _).mono ?_; rintro e w2 ⟨rfl, hk2⟩; replace hK := Kept.trans' hK hk2; clear hk2)
      | (go_at_call 10; refine (bE_is z3.out _).mono ?_; rintro e w2 ⟨rfl, hk2⟩; replace hK := Kept.trans' hK hk2; clear hk2)
      | (go_at_call 11; refine (bW_is z4.out _).mono ?_; rintro e w2 ⟨rfl, hk2⟩; replace hK := Kept.trans' hK hk2; clear hk2))
  replace hb := hb.kept hK
  replace hB := hB.trans' hK
  clear x1 x2 d1 d2 d3 d4 hK c0 c1 c2 c3 c4 c5 c6 c7 c8 c9 c10 c11 hlt
  have c0 := hb.cell 0
  have c1 := hb.cell 1
  have c2 := hb.cell 2
  have c3 := hb.cell 3
  have c4 := hb.cell 4
  have c5 := hb.cell 5
  have c6 := hb.cell 6
  have c7 := hb.cell 7
  have c8 := hb.cell 8
  have c9 := hb.cell 9
  have c10 := hb.cell 10
  have c11 := hb.cell 11
  have hlt := hb.lt
  go_wp2_with fail
  have ZA : Hid (∀ W, Calls Try.prog 11 #[.agg #[.int .i64 c.c0, .int .i64 c.c1, .int .i64 c.c2, .int .i64 c.c3, .int .i64 (min (c.c4 + 1) 12), .int .i64 c.mks, .int .i64 c.mus, .int .i64 c.dq, .int .i64 c.ch, .int .i64 c.bu, .int .i64 c.ro, .int .i64 c.sw]] W fun e w' => e = .returned (.int .i64 Wa) ∧ Kept W w') := fun W => bW_is za.out W
  have ZB : Hid (∀ W, Calls Try.prog 11 #[.agg #[.int .i64 c.c0, .int .i64 c.c1, .int .i64 c.c2, .int .i64 c.c3, .int .i64 c.c4, .int .i64 c.mks, .int .i64 c.mus, .int .i64 c.dq, .int .i64 (max (c.ch - 1) 1), .int .i64 c.bu, .int .i64 c.ro, .int .i64 c.sw]] W fun e w' => e = .returned (.int .i64 Wb) ∧ Kept W w') := fun W => bW_is zb.out W
  have ZD : Hid (∀ W, Calls Try.prog 11 #[.agg #[.int .i64 c.c0, .int .i64 c.c1, .int .i64 c.c2, .int .i64 c.c3, .int .i64 c.c4, .int .i64 (min (c.mks + 1) 4), .int .i64 c.mus, .int .i64 c.dq, .int .i64 c.ch, .int .i64 c.bu, .int .i64 c.ro, .int .i64 c.sw]] W fun e w' => e = .returned (.int .i64 Wd) ∧ Kept W w') := fun W => bW_is zd.out W
  have ZC : Hid (∀ W, Calls Try.prog 11 #[.agg #[.int .i64 c.c0, .int .i64 c.c1, .int .i64 c.c2, .int .i64 c.c3, .int .i64 c.c4, .int .i64 c.mks, .int .i64 c.mus, .int .i64 c.dq, .int .i64 c.ch, .int .i64 c.bu, .int .i64 c.ro, .int .i64 c.sw]] W fun e w' => e = .returned (.int .i64 Wi) ∧ Kept W w') := fun W => bW_is z4.out W
  have Z1 : Hid (∀ W, Calls Try.prog 12 #[.agg #[.int .i64 c.c0, .int .i64 c.c1, .int .i64 c.c2, .int .i64 c.c3, .int .i64 c.c4, .int .i64 c.mks, .int .i64 c.mus, .int .i64 c.dq, .int .i64 c.ch, .int .i64 c.bu, .int .i64 c.ro, .int .i64 c.sw], .int .i64 1] W fun e w' => e = .returned (.int .i64 Wi) ∧ Kept W w') := fun W => bSt_is zs1.out W
  have Z2 : Hid (∀ W, Calls Try.prog 12 #[.agg #[.int .i64 c.c0, .int .i64 c.c1, .int .i64 c.c2, .int .i64 c.c3, .int .i64 c.c4, .int .i64 c.mks, .int .i64 c.mus, .int .i64 c.dq, .int .i64 c.ch, .int .i64 c.bu, .int .i64 c.ro, .int .i64 c.sw], .int .i64 2] W fun e w' => e = .returned (.int .i64 (2 * Wi)) ∧ Kept W w') := fun W => bSt_is zs2.out W
  obtain ⟨W4, hW4⟩ : ∃ W4, W4 = ((w2.alloc (.cells #[.int .i64 c.c0, .int .i64 c.c1, .int .i64 c.c2, .int .i64 c.c3, .int .i64 (min (c.c4 + 1) 12), .int .i64 c.mks, .int .i64 c.mus, .int .i64 c.dq, .int .i64 c.ch, .int .i64 c.bu, .int .i64 c.ro, .int .i64 c.sw] 24)).alloc (.cells #[.int .i64 c.c0, .int .i64 c.c1, .int .i64 c.c2, .int .i64 c.c3, .int .i64 c.c4, .int .i64 c.mks, .int .i64 c.mus, .int .i64 c.dq, .int .i64 (max (c.ch - 1) 1), .int .i64 c.bu, .int .i64 c.ro, .int .i64 c.sw] 24)).alloc (.cells #[.int .i64 c.c0, .int .i64 c.c1, .int .i64 c.c2, .int .i64 c.c3, .int .i64 c.c4, .int .i64 (min (c.mks + 1) 4), .int .i64 c.mus, .int .i64 c.dq, .int .i64 c.ch, .int .i64 c.bu, .int .i64 c.ro, .int .i64 c.sw] 24) := ⟨_, rfl⟩
  have hA : Blk W4 w2.heap.size 24 [.int .i64 c.c0, .int .i64 c.c1, .int .i64 c.c2, .int .i64 c.c3, .int .i64 (min (c.c4 + 1) 12), .int .i64 c.mks, .int .i64 c.mus, .int .i64 c.dq, .int .i64 c.ch, .int .i64 c.bu, .int .i64 c.ro, .int .i64 c.sw] := by rw [hW4]; exact ((Blk.new w2 _ _).alloc _).alloc _
  have hBB : Blk W4 (w2.heap.size + 1) 24 [.int .i64 c.c0, .int .i64 c.c1, .int .i64 c.c2, .int .i64 c.c3, .int .i64 c.c4, .int .i64 c.mks, .int .i64 c.mus, .int .i64 c.dq, .int .i64 (max (c.ch - 1) 1), .int .i64 c.bu, .int .i64 c.ro, .int .i64 c.sw] := by rw [hW4]; have := (Blk.new (w2.alloc (.cells #[.int .i64 c.c0, .int .i64 c.c1, .int .i64 c.c2, .int .i64 c.c3, .int .i64 (min (c.c4 + 1) 12), .int .i64 c.mks, .int .i64 c.mus, .int .i64 c.dq, .int .i64 c.ch, .int .i64 c.bu, .int .i64 c.ro, .int .i64 c.sw] 24)) 24 [.int .i64 c.c0, .int .i64 c.c1, .int .i64 c.c2, .int .i64 c.c3, .int .i64 c.c4, .int .i64 c.mks, .int .i64 c.mus, .int .i64 c.dq, .int .i64 (max (c.ch - 1) 1), .int .i64 c.bu, .int .i64 c.ro, .int .i64 c.sw]).alloc (.cells #[.int .i64 c.c0, .int .i64 c.c1, .int .i64 c.c2, .int .i64 c.c3, .int .i64 c.c4, .int .i64 (min (c.mks + 1) 4), .int .i64 c.mus, .int .i64 c.dq, .int .i64 c.ch, .int .i64 c.bu, .int .i64 c.ro, .int .i64 c.sw] 24); simpa using this
  have hD : Blk W4 (w2.heap.size + 1 + 1) 24 [.int .i64 c.c0, .int .i64 c.c1, .int .i64 c.c2, .int .i64 c.c3, .int .i64 c.c4, .int .i64 (min (c.mks + 1) 4), .int .i64 c.mus, .int .i64 c.dq, .int .i64 c.ch, .int .i64 c.bu, .int .i64 c.ro, .int .i64 c.sw] := by rw [hW4]; have := Blk.new ((w2.alloc (.cells #[.int .i64 c.c0, .int .i64 c.c1, .int .i64 c.c2, .int .i64 c.c3, .int .i64 (min (c.c4 + 1) 12), .int .i64 c.mks, .int .i64 c.mus, .int .i64 c.dq, .int .i64 c.ch, .int .i64 c.bu, .int .i64 c.ro, .int .i64 c.sw] 24)).alloc (.cells #[.int .i64 c.c0, .int .i64 c.c1, .int .i64 c.c2, .int .i64 c.c3, .int .i64 c.c4, .int .i64 c.mks, .int .i64 c.mus, .int .i64 c.dq, .int .i64 (max (c.ch - 1) 1), .int .i64 c.bu, .int .i64 c.ro, .int .i64 c.sw] 24)) 24 [.int .i64 c.c0, .int .i64 c.c1, .int .i64 c.c2, .int .i64 c.c3, .int .i64 c.c4, .int .i64 (min (c.mks + 1) 4), .int .i64 c.mus, .int .i64 c.dq, .int .i64 c.ch, .int .i64 c.bu, .int .i64 c.ro, .int .i64 c.sw]; simpa using this
  have hC : Blk W4 w.heap.size 24 [.int .i64 c.c0, .int .i64 c.c1, .int .i64 c.c2, .int .i64 c.c3, .int .i64 c.c4, .int .i64 c.mks, .int .i64 c.mus, .int .i64 c.dq, .int .i64 c.ch, .int .i64 c.bu, .int .i64 c.ro, .int .i64 c.sw] := by rw [hW4]; exact ((hb.alloc _).alloc _).alloc _
  have hB4 : Kept w W4 := by rw [hW4]; exact hB.trans' (((Below.refl _ _).alloc (Nat.le_refl _) _ |>.alloc (by simp) _).alloc (by simp; omega) _)
  rw [← hW4]
  clear hW4 c0 c1 c2 c3 c4 c5 c6 c7 c8 c9 c10 c11 hlt hb hB
  generalize w2.heap.size = bA at *
  generalize bA + 1 = bB at *
  generalize bB + 1 = bD at *
  have lqc := hC.lt
  have c0 := hC.cell 0
  have c1 := hC.cell 1
  have c2 := hC.cell 2
  have c3 := hC.cell 3
  have c4 := hC.cell 4
  have c5 := hC.cell 5
  have c6 := hC.cell 6
  have c7 := hC.cell 7
  have c8 := hC.cell 8
  have c9 := hC.cell 9
  have c10 := hC.cell 10
  have c11 := hC.cell 11
  have lqa := hA.lt
  have a0 := hA.cell 0
  have a1 := hA.cell 1
  have a2 := hA.cell 2
  have a3 := hA.cell 3
  have a4 := hA.cell 4
  have a5 := hA.cell 5
  have a6 := hA.cell 6
  have a7 := hA.cell 7
  have a8 := hA.cell 8
  have a9 := hA.cell 9
  have a10 := hA.cell 10
  have a11 := hA.cell 11
  have lqb := hBB.lt
  have b0 := hBB.cell 0
  have b1 := hBB.cell 1
  have b2 := hBB.cell 2
  have b3 := hBB.cell 3
  have b4 := hBB.cell 4
  have b5 := hBB.cell 5
  have b6 := hBB.cell 6
  have b7 := hBB.cell 7
  have b8 := hBB.cell 8
  have b9 := hBB.cell 9
  have b10 := hBB.cell 10
  have b11 := hBB.cell 11
  have lqd := hD.lt
  have d0 := hD.cell 0
  have d1 := hD.cell 1
  have d2 := hD.cell 2
  have d3 := hD.cell 3
  have d4 := hD.cell 4
  have d5 := hD.cell 5
  have d6 := hD.cell 6
  have d7 := hD.cell 7
  have d8 := hD.cell 8
  have d9 := hD.cell 9
  have d10 := hD.cell 10
  have d11 := hD.cell 11
  have x1 : IntKind.i64.wrap (2 * Wi) = 2 * Wi := IntWalk.i64_in _ (by omega)
  have dax : decide (Wi ≤ Wa) = true := by simp; omega
  have dbx : decide (Wi ≤ Wb) = true := by simp; omega
  have ddx : decide (Wi ≤ Wd) = true := by simp; omega
  have hK : Kept W4 W4.drew := (Below.refl _ _).drew
  clear la lb ld
  have HS : Hid (∀ W, Kept W4 W → (W.cell? ⟨w.heap.size, 0, none⟩ = some (.int .i64 c.c0) ∧ W.cell? ⟨w.heap.size, 1, none⟩ = some (.int .i64 c.c1) ∧ W.cell? ⟨w.heap.size, 2, none⟩ = some (.int .i64 c.c2) ∧ W.cell? ⟨w.heap.size, 3, none⟩ = some (.int .i64 c.c3) ∧ W.cell? ⟨w.heap.size, 4, none⟩ = some (.int .i64 c.c4) ∧ W.cell? ⟨w.heap.size, 5, none⟩ = some (.int .i64 c.mks) ∧ W.cell? ⟨w.heap.size, 6, none⟩ = some (.int .i64 c.mus) ∧ W.cell? ⟨w.heap.size, 7, none⟩ = some (.int .i64 c.dq) ∧ W.cell? ⟨w.heap.size, 8, none⟩ = some (.int .i64 c.ch) ∧ W.cell? ⟨w.heap.size, 9, none⟩ = some (.int .i64 c.bu) ∧ W.cell? ⟨w.heap.size, 10, none⟩ = some (.int .i64 c.ro) ∧ W.cell? ⟨w.heap.size, 11, none⟩ = some (.int .i64 c.sw) ∧ W.cell? ⟨bA, 0, none⟩ = some (.int .i64 c.c0) ∧ W.cell? ⟨bA, 1, none⟩ = some (.int .i64 c.c1) ∧ W.cell? ⟨bA, 2, none⟩ = some (.int .i64 c.c2) ∧ W.cell? ⟨bA, 3, none⟩ = some (.int .i64 c.c3) ∧ W.cell? ⟨bA, 4, none⟩ = some (.int .i64 (min (c.c4 + 1) 12)) ∧ W.cell? ⟨bA, 5, none⟩ = some (.int .i64 c.mks) ∧ W.cell? ⟨bA, 6, none⟩ = some (.int .i64 c.mus) ∧ W.cell? ⟨bA, 7, none⟩ = some (.int .i64 c.dq) ∧ W.cell? ⟨bA, 8, none⟩ = some (.int .i64 c.ch) ∧ W.cell? ⟨bA, 9, none⟩ = some (.int .i64 c.bu) ∧ W.cell? ⟨bA, 10, none⟩ = some (.int .i64 c.ro) ∧ W.cell? ⟨bA, 11, none⟩ = some (.int .i64 c.sw) ∧ W.cell? ⟨bB, 0, none⟩ = some (.int .i64 c.c0) ∧ W.cell? ⟨bB, 1, none⟩ = some (.int .i64 c.c1) ∧ W.cell? ⟨bB, 2, none⟩ = some (.int .i64 c.c2) ∧ W.cell? ⟨bB, 3, none⟩ = some (.int .i64 c.c3) ∧ W.cell? ⟨bB, 4, none⟩ = some (.int .i64 c.c4) ∧ W.cell? ⟨bB, 5, none⟩ = some (.int .i64 c.mks) ∧ W.cell? ⟨bB, 6, none⟩ = some (.int .i64 c.mus) ∧ W.cell? ⟨bB, 7, none⟩ = some (.int .i64 c.dq) ∧ W.cell? ⟨bB, 8, none⟩ = some (.int .i64 (max (c.ch - 1) 1)) ∧ W.cell? ⟨bB, 9, none⟩ = some (.int .i64 c.bu) ∧ W.cell? ⟨bB, 10, none⟩ = some (.int .i64 c.ro) ∧ W.cell? ⟨bB, 11, none⟩ = some (.int .i64 c.sw) ∧ W.cell? ⟨bD, 0, none⟩ = some (.int .i64 c.c0) ∧ W.cell? ⟨bD, 1, none⟩ = some (.int .i64 c.c1) ∧ W.cell? ⟨bD, 2, none⟩ = some (.int .i64 c.c2) ∧ W.cell? ⟨bD, 3, none⟩ = some (.int .i64 c.c3) ∧ W.cell? ⟨bD, 4, none⟩ = some (.int .i64 c.c4) ∧ W.cell? ⟨bD, 5, none⟩ = some (.int .i64 (min (c.mks + 1) 4)) ∧ W.cell? ⟨bD, 6, none⟩ = some (.int .i64 c.mus) ∧ W.cell? ⟨bD, 7, none⟩ = some (.int .i64 c.dq) ∧ W.cell? ⟨bD, 8, none⟩ = some (.int .i64 c.ch) ∧ W.cell? ⟨bD, 9, none⟩ = some (.int .i64 c.bu) ∧ W.cell? ⟨bD, 10, none⟩ = some (.int .i64 c.ro) ∧ W.cell? ⟨bD, 11, none⟩ = some (.int .i64 c.sw))) := fun W hK => ⟨(Below.cell hK lqc).trans c0, (Below.cell hK lqc).trans c1, (Below.cell hK lqc).trans c2, (Below.cell hK lqc).trans c3, (Below.cell hK lqc).trans c4, (Below.cell hK lqc).trans c5, (Below.cell hK lqc).trans c6, (Below.cell hK lqc).trans c7, (Below.cell hK lqc).trans c8, (Below.cell hK lqc).trans c9, (Below.cell hK lqc).trans c10, (Below.cell hK lqc).trans c11, (Below.cell hK lqa).trans a0, (Below.cell hK lqa).trans a1, (Below.cell hK lqa).trans a2, (Below.cell hK lqa).trans a3, (Below.cell hK lqa).trans a4, (Below.cell hK lqa).trans a5, (Below.cell hK lqa).trans a6, (Below.cell hK lqa).trans a7, (Below.cell hK lqa).trans a8, (Below.cell hK lqa).trans a9, (Below.cell hK lqa).trans a10, (Below.cell hK lqa).trans a11, (Below.cell hK lqb).trans b0, (Below.cell hK lqb).trans b1, (Below.cell hK lqb).trans b2, (Below.cell hK lqb).trans b3, (Below.cell hK lqb).trans b4, (Below.cell hK lqb).trans b5, (Below.cell hK lqb).trans b6, (Below.cell hK lqb).trans b7, (Below.cell hK lqb).trans b8, (Below.cell hK lqb).trans b9, (Below.cell hK lqb).trans b10, (Below.cell hK lqb).trans b11, (Below.cell hK lqd).trans d0, (Below.cell hK lqd).trans d1, (Below.cell hK lqd).trans d2, (Below.cell hK lqd).trans d3, (Below.cell hK lqd).trans d4, (Below.cell hK lqd).trans d5, (Below.cell hK lqd).trans d6, (Below.cell hK lqd).trans d7, (Below.cell hK lqd).trans d8, (Below.cell hK lqd).trans d9, (Below.cell hK lqd).trans d10, (Below.cell hK lqd).trans d11⟩
  clear c0 c1 c2 c3 c4 c5 c6 c7 c8 c9 c10 c11 a0 a1 a2 a3 a4 a5 a6 a7 a8 a9 a10 a11 b0 b1 b2 b3 b4 b5 b6 b7 b8 b9 b10 b11 d0 d1 d2 d3 d4 d5 d6 d7 d8 d9 d10 d11
  go_region_held3 (fun w' => w'.cell? ⟨w.heap.size, 0, none⟩ = some (.int .i64 c.c0) ∧ w'.cell? ⟨w.heap.size, 1, none⟩ = some (.int .i64 c.c1) ∧ w'.cell? ⟨w.heap.size, 2, none⟩ = some (.int .i64 c.c2) ∧ w'.cell? ⟨w.heap.size, 3, none⟩ = some (.int .i64 c.c3) ∧ w'.cell? ⟨w.heap.size, 4, none⟩ = some (.int .i64 c.c4) ∧ w'.cell? ⟨w.heap.size, 5, none⟩ = some (.int .i64 c.mks) ∧ w'.cell? ⟨w.heap.size, 6, none⟩ = some (.int .i64 c.mus) ∧ w'.cell? ⟨w.heap.size, 7, none⟩ = some (.int .i64 c.dq) ∧ w'.cell? ⟨w.heap.size, 8, none⟩ = some (.int .i64 c.ch) ∧ w'.cell? ⟨w.heap.size, 9, none⟩ = some (.int .i64 c.bu) ∧ w'.cell? ⟨w.heap.size, 10, none⟩ = some (.int .i64 c.ro) ∧ w'.cell? ⟨w.heap.size, 11, none⟩ = some (.int .i64 c.sw) ∧ w'.cell? ⟨bA, 0, none⟩ = some (.int .i64 c.c0) ∧ w'.cell? ⟨bA, 1, none⟩ = some (.int .i64 c.c1) ∧ w'.cell? ⟨bA, 2, none⟩ = some (.int .i64 c.c2) ∧ w'.cell? ⟨bA, 3, none⟩ = some (.int .i64 c.c3) ∧ w'.cell? ⟨bA, 4, none⟩ = some (.int .i64 (min (c.c4 + 1) 12)) ∧ w'.cell? ⟨bA, 5, none⟩ = some (.int .i64 c.mks) ∧ w'.cell? ⟨bA, 6, none⟩ = some (.int .i64 c.mus) ∧ w'.cell? ⟨bA, 7, none⟩ = some (.int .i64 c.dq) ∧ w'.cell? ⟨bA, 8, none⟩ = some (.int .i64 c.ch) ∧ w'.cell? ⟨bA, 9, none⟩ = some (.int .i64 c.bu) ∧ w'.cell? ⟨bA, 10, none⟩ = some (.int .i64 c.ro) ∧ w'.cell? ⟨bA, 11, none⟩ = some (.int .i64 c.sw) ∧ w'.cell? ⟨bB, 0, none⟩ = some (.int .i64 c.c0) ∧ w'.cell? ⟨bB, 1, none⟩ = some (.int .i64 c.c1) ∧ w'.cell? ⟨bB, 2, none⟩ = some (.int .i64 c.c2) ∧ w'.cell? ⟨bB, 3, none⟩ = some (.int .i64 c.c3) ∧ w'.cell? ⟨bB, 4, none⟩ = some (.int .i64 c.c4) ∧ w'.cell? ⟨bB, 5, none⟩ = some (.int .i64 c.mks) ∧ w'.cell? ⟨bB, 6, none⟩ = some (.int .i64 c.mus) ∧ w'.cell? ⟨bB, 7, none⟩ = some (.int .i64 c.dq) ∧ w'.cell? ⟨bB, 8, none⟩ = some (.int .i64 (max (c.ch - 1) 1)) ∧ w'.cell? ⟨bB, 9, none⟩ = some (.int .i64 c.bu) ∧ w'.cell? ⟨bB, 10, none⟩ = some (.int .i64 c.ro) ∧ w'.cell? ⟨bB, 11, none⟩ = some (.int .i64 c.sw) ∧ w'.cell? ⟨bD, 0, none⟩ = some (.int .i64 c.c0) ∧ w'.cell? ⟨bD, 1, none⟩ = some (.int .i64 c.c1) ∧ w'.cell? ⟨bD, 2, none⟩ = some (.int .i64 c.c2) ∧ w'.cell? ⟨bD, 3, none⟩ = some (.int .i64 c.c3) ∧ w'.cell? ⟨bD, 4, none⟩ = some (.int .i64 c.c4) ∧ w'.cell? ⟨bD, 5, none⟩ = some (.int .i64 (min (c.mks + 1) 4)) ∧ w'.cell? ⟨bD, 6, none⟩ = some (.int .i64 c.mus) ∧ w'.cell? ⟨bD, 7, none⟩ = some (.int .i64 c.dq) ∧ w'.cell? ⟨bD, 8, none⟩ = some (.int .i64 c.ch) ∧ w'.cell? ⟨bD, 9, none⟩ = some (.int .i64 c.bu) ∧ w'.cell? ⟨bD, 10, none⟩ = some (.int .i64 c.ro) ∧ w'.cell? ⟨bD, 11, none⟩ = some (.int .i64 c.sw))
    (exact Hid.out HS _ hK)
    (first
      | (go_at_call 11; (with_reducible refine (Hid.out ZC _).mono ?_); rintro e w2 ⟨rfl, hk2⟩; replace hK := Kept.trans' hK hk2; clear hk2)
      | (go_at_call 11; (with_reducible refine (Hid.out ZA _).mono ?_); rintro e w2 ⟨rfl, hk2⟩; replace hK := Kept.trans' hK hk2; clear hk2)
      | (go_at_call 11; (with_reducible refine (Hid.out ZB _).mono ?_); rintro e w2 ⟨rfl, hk2⟩; replace hK := Kept.trans' hK hk2; clear hk2)
      | (go_at_call 11; (with_reducible refine (Hid.out ZD _).mono ?_); rintro e w2 ⟨rfl, hk2⟩; replace hK := Kept.trans' hK hk2; clear hk2)
      | (go_at_call 12; (with_reducible refine (Hid.out Z1 _).mono ?_); rintro e w2 ⟨rfl, hk2⟩; replace hK := Kept.trans' hK hk2; clear hk2)
      | (go_at_call 12; (with_reducible refine (Hid.out Z2 _).mono ?_); rintro e w2 ⟨rfl, hk2⟩; replace hK := Kept.trans' hK hk2; clear hk2))
  go_wp2_with fail
  go_ret
  exact ⟨rfl, hB4.trans' hK⟩

end Go.Proofs.Ytfamlfemdegmpaa
