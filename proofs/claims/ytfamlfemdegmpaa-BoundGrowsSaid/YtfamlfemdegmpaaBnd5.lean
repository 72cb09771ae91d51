/- The four bounds, walked. -/
import Derived.Test.YtfamlfemdegmpaaBnd4
namespace Go.Proofs.Ytfamlfemdegmpaa
open Go.RowKit

def cellsL (c : Cfg) : List Int := [c.c0, c.c1, c.c2, c.c3, c.c4]
def roomsC (c : Cfg) : List Int := roomsI (cellsL c) 5
def tasksI (c : Cfg) : Int := mostI (roomsC c) c.ch
def slotsSumI (c : Cfg) : Int := sumI (roomsC c)
def eventsI (c : Cfg) : Int := 40 * tasksI c + 20 * slotsSumI c + 8 * (c.mks + c.mus + 1) * tasksI c + 8 * (c.mks + c.mus + 1)
def windowsI (c : Cfg) : Int := 64 * (eventsI c + 2) + 16

theorem good_cells {c : Cfg} (h : Good c) : okCells (cellsL c) := by
  refine ⟨rfl, fun k hk => ?_⟩
  obtain ⟨h0, h1, h2, h3, h4, _⟩ := h
  have : k = 0 ∨ k = 1 ∨ k = 2 ∨ k = 3 ∨ k = 4 := by omega
  rcases this with rfl | rfl | rfl | rfl | rfl
  · exact h0
  · exact h1
  · exact h2
  · exact h3
  · exact h4

theorem roomsI_mem (cs : List Int) (k : Nat) (hk : k ≤ 5) : ∀ x ∈ roomsI cs k, 1 ≤ x ∧ x ≤ 16 := by
  intro x hx
  unfold roomsI at hx
  simp only [List.mem_flatMap, List.mem_range, List.mem_replicate] at hx
  obtain ⟨i, hi, _, rfl⟩ := hx
  have : i = 0 ∨ i = 1 ∨ i = 2 ∨ i = 3 ∨ i = 4 := by omega
  rcases this with rfl | rfl | rfl | rfl | rfl <;> decide

theorem roomsC_len {c : Cfg} (h : Good c) : (roomsC c).length ≤ 60 := roomsI_len _ (good_cells h) 5 (Nat.le_refl _)

theorem tasks_bound {c : Cfg} (h : Good c) : 0 ≤ tasksI c ∧ tasksI c ≤ 60000 := by
  have h1 := roomsC_len h
  have h2 := sumI_bound ((roomsC c).map fun s => countI s c.ch) 1000 (fun x hx => by
        simp only [List.mem_map] at hx
        obtain ⟨s, _, rfl⟩ := hx
        have := countI_bound s c.ch
        omega)
  rw [List.length_map] at h2
  unfold tasksI mostI
  omega

theorem slotsSum_bound {c : Cfg} (h : Good c) : 0 ≤ slotsSumI c ∧ slotsSumI c ≤ 960 := by
  have h1 := roomsC_len h
  have h2 := sumI_bound (roomsC c) 16 (fun x hx => by have := roomsI_mem _ 5 (by omega) x hx; omega)
  unfold slotsSumI
  omega

theorem aT_bound {c : Cfg} (h : Good c) : 0 ≤ 8 * (c.mks + c.mus + 1) * tasksI c ∧ 8 * (c.mks + c.mus + 1) * tasksI c ≤ 4320000 := by
  have ht := tasks_bound h
  obtain ⟨_, _, _, _, _, hm, hu, _⟩ := h
  generalize tasksI c = T at *
  have : c.mks + c.mus + 1 ≤ 9 ∧ 3 ≤ c.mks + c.mus + 1 := by omega
  generalize c.mks + c.mus + 1 = a at *
  have h1 : 0 ≤ 8 * a * T := Int.mul_nonneg (by omega) ht.1
  have h2 : 8 * a * T ≤ 72 * 60000 := Int.mul_le_mul (by omega) ht.2 ht.1 (by omega)
  omega

theorem events_bound {c : Cfg} (h : Good c) : 0 ≤ eventsI c ∧ eventsI c ≤ 7000000 := by
  have h1 := tasks_bound h
  have h2 := slotsSum_bound h
  have h3 := aT_bound h
  obtain ⟨_, _, _, _, _, hm, hu, _⟩ := h
  unfold eventsI
  generalize 8 * (c.mks + c.mus + 1) * tasksI c = p at *
  omega

theorem tasks1_any (c : Cfg) (bc : Nat) (w : World) (hb : Blk w bc 24 [.int .i64 c.c0, .int .i64 c.c1, .int .i64 c.c2, .int .i64 c.c3, .int .i64 c.c4, .int .i64 c.mks, .int .i64 c.mus, .int .i64 c.dq, .int .i64 c.ch, .int .i64 c.bu, .int .i64 c.ro, .int .i64 c.sw]) (hg : Good c) :
    Calls Try.prog 18 #[.pointer (some ⟨bc, 0, none⟩)] w fun e w' => e = .returned (.int .i64 (tasksI c)) ∧ Kept w w' := by
  have c0 := hb.cell 0
  have c1 := hb.cell 1
  have c2 := hb.cell 2
  have c3 := hb.cell 3
  have c4 := hb.cell 4
  have c8 := hb.cell 8
  have hok := good_cells hg
  have hlen := roomsC_len hg
  have hlt := hb.lt
  go_enter Try.func18, Try.ntmps18
  go_wp2_with fail
  go_region_held3 (fun w' => w'.cell? ⟨bc, 0, none⟩ = some (.int .i64 c.c0) ∧ w'.cell? ⟨bc, 1, none⟩ = some (.int .i64 c.c1) ∧ w'.cell? ⟨bc, 2, none⟩ = some (.int .i64 c.c2) ∧ w'.cell? ⟨bc, 3, none⟩ = some (.int .i64 c.c3) ∧ w'.cell? ⟨bc, 4, none⟩ = some (.int .i64 c.c4) ∧ w'.cell? ⟨bc, 8, none⟩ = some (.int .i64 c.ch))
    (first | exact ⟨c0, c1, c2, c3, c4, c8⟩ | (have hcc := fun i => Below.cell hk1 (p := ⟨bc, i, none⟩) hlt; exact ⟨(hcc 0).trans c0, (hcc 1).trans c1, (hcc 2).trans c2, (hcc 3).trans c3, (hcc 4).trans c4, (hcc 8).trans c8⟩) | (have hcc := fun i => Below.cell (hk1.trans' hk2) (p := ⟨bc, i, none⟩) hlt; exact ⟨(hcc 0).trans c0, (hcc 1).trans c1, (hcc 2).trans c2, (hcc 3).trans c3, (hcc 4).trans c4, (hcc 8).trans c8⟩))
    (first | (go_at_call 20; refine (rooms_any _ _ _ _ _ _ hok).mono ?_; rintro e w1 ⟨v1, rfl, hown, hk1⟩) | (go_at_call 19; refine (most_any (roomsC c) _ _ _ (by omega) (Row.ofOwn hown)).mono ?_; rintro e w2 ⟨rfl, hk2⟩))
  go_wp2_with fail
  go_ret
  exact ⟨rfl, ((Below.refl _ _).drew).trans (hk1.trans' hk2)⟩

theorem Blk.kept {w w' : World} {b t l} (h : Blk w b t l) (k : Kept w w') : Blk w' b t l := Kept.blk k h

theorem slots1_any (c : Cfg) (bc : Nat) (w : World) (hb : Blk w bc 24 [.int .i64 c.c0, .int .i64 c.c1, .int .i64 c.c2, .int .i64 c.c3, .int .i64 c.c4, .int .i64 c.mks, .int .i64 c.mus, .int .i64 c.dq, .int .i64 c.ch, .int .i64 c.bu, .int .i64 c.ro, .int .i64 c.sw]) (hg : Good c) :
    Calls Try.prog 21 #[.pointer (some ⟨bc, 0, none⟩)] w fun e w' => e = .returned (.int .i64 (slotsSumI c)) ∧ Kept w w' := by
  have c0 := hb.cell 0
  have c1 := hb.cell 1
  have c2 := hb.cell 2
  have c3 := hb.cell 3
  have c4 := hb.cell 4
  have hok := good_cells hg
  have hlen := roomsC_len hg
  have hmem : ∀ x ∈ roomsC c, 1 ≤ x ∧ x ≤ 16 := roomsI_mem _ 5 (by omega)
  go_enter Try.func21, Try.ntmps21
  go_wp2_with fail
  refine (rooms_any _ _ _ _ _ _ hok).mono ?_; rintro e w1 ⟨v1, rfl, hown, hk1⟩
  have hrow := Row.ofOwn hown
  clear hown
  change Row w1 v1 ((roomsC c).map (Value.int .i64)) at hrow
  generalize hL : roomsC c = l at *
  have HL : Hid (roomsC c = l) := hL
  clear hL c0 c1 c2 c3 c4 hok
  obtain ⟨ao, cap, rfl, hm, hc⟩ := hrow.ex
  rw [List.length_map] at *
  have H : Hid (∀ i, i < l.length → ∃ g, ao = some ⟨g, 0, none⟩ ∧ g < w1.heap.size ∧ w1.cell? ⟨g, i, none⟩ = some (.int .i64 (l[i]?.getD 0))) := fun i hi => by
    refine hc i _ ?_
    simp [List.getElem?_eq_getElem hi]
  clear hc hm hrow
  go_wp2_with fail
  go_loop [2, 9] (fun t i => ∃ k : Nat, k ≤ l.length ∧ i = .int .i64 k ∧ t = .int .i64 (sumI (l.take k))) (fun _ i => l.length - (intOf i).toNat)
  case atStart => exact ⟨0, by omega, rfl, rfl⟩
  case round =>
    obtain ⟨k, hk, rfl, rfl⟩ := hrel
    by_cases hlt : (k : Int) < l.length
    · obtain ⟨g, rfl, hg, hcell⟩ := H.out k (by omega)
      have hb1 := sumI_bound (l.take k) 16 (fun x hx => by have := hmem x (List.mem_of_mem_take hx); omega)
      have hb2 : (l.take k).length ≤ 60 := by simp; omega
      obtain ⟨hb0, hb1⟩ := hb1
      have hb3 : sumI (l.take k) ≤ 960 := by omega
      have hx : 0 ≤ l[k]?.getD 0 ∧ l[k]?.getD 0 ≤ 16 := by
        rw [List.getElem?_eq_getElem (by omega)]; have := hmem (l[k]'(by omega)) (List.getElem_mem _); simp; omega
      obtain ⟨hx0, hx1⟩ := hx
      have S1 : Hid (sumI (l.take (k + 1)) = sumI (l.take k) + l[k]?.getD 0) := sumI_take_succ _ _ (by omega)
      clear hb1 hb2
      generalize sumI (l.take k) = tk at *
      generalize l[k]?.getD 0 = xk at *
      go_wp2_with fail
      refine ⟨⟨k + 1, by omega, by go_num, by rw [S1.out]⟩, by simp [intOf]; omega⟩
    · obtain rfl : k = l.length := by omega
      go_wp2_with fail
      go_ret
      exact ⟨ret_int (by unfold slotsSumI; rw [HL.out]), hk1⟩

def bTasksI (c : Cfg) : Int := if Good c then tasksI c else 0

theorem of_Tasks (c : Cfg) (bc : Nat) (w : World) (hb : Blk w bc 24 [.int .i64 c.c0, .int .i64 c.c1, .int .i64 c.c2, .int .i64 c.c3, .int .i64 c.c4, .int .i64 c.mks, .int .i64 c.mus, .int .i64 c.dq, .int .i64 c.ch, .int .i64 c.bu, .int .i64 c.ro, .int .i64 c.sw]) :
    Calls Try.prog 17 #[.agg #[.int .i64 c.c0, .int .i64 c.c1, .int .i64 c.c2, .int .i64 c.c3, .int .i64 c.c4, .int .i64 c.mks, .int .i64 c.mus, .int .i64 c.dq, .int .i64 c.ch, .int .i64 c.bu, .int .i64 c.ro, .int .i64 c.sw], .func (.func 18) #[] #[.pointer (some ⟨bc, 0, none⟩)]] w fun e w' => e = .returned (.int .i64 (bTasksI c)) ∧ Kept w w' := by
  by_cases hg : Good c
  · have he : errI c = 0 := by unfold errI; rw [if_pos hg]
    have HG : Hid (Good c) := hg
    rw [show bTasksI c = tasksI c from if_pos hg]
    clear hg
    go_enter Try.func17, Try.ntmps17
    go_wp2_with fail
    refine (check_any _ _).mono ?_; rintro e w1 ⟨rfl, hk1⟩
    rw [he]
    go_wp2_with fail
    refine (tasks1_any c bc _ ((hb.alloc _).kept hk1) HG.out).mono ?_; rintro e w2 ⟨rfl, hk2⟩
    go_wp2_with fail
    go_ret
    exact ⟨rfl, ((Below.refl _ _).alloc (Nat.le_refl _) _).trans ((hk1.trans' hk2).mono (by simp))⟩
  · have he : errI c = 21 := by unfold errI; rw [if_neg hg]
    rw [show bTasksI c = 0 from if_neg hg]
    clear hg
    go_enter Try.func17, Try.ntmps17
    go_wp2_with fail
    refine (check_any _ _).mono ?_; rintro e w1 ⟨rfl, hk1⟩
    rw [he]
    go_wp2_with fail
    go_ret
    exact ⟨rfl, ((Below.refl _ _).alloc (Nat.le_refl _) _).trans (hk1.mono (by simp))⟩

/-- 'Tasks' of a configuration; 0 of one that may not be. -/
theorem bTasks_any (c : Cfg) (w : World) :
    Calls Try.prog 8 #[.agg #[.int .i64 c.c0, .int .i64 c.c1, .int .i64 c.c2, .int .i64 c.c3, .int .i64 c.c4, .int .i64 c.mks, .int .i64 c.mus, .int .i64 c.dq, .int .i64 c.ch, .int .i64 c.bu, .int .i64 c.ro, .int .i64 c.sw]] w fun e w' => e = .returned (.int .i64 (bTasksI c)) ∧ Kept w w' := by
  go_enter Try.func8, Try.ntmps8
  go_wp2_with fail
  refine (of_Tasks c _ _ (Blk.new w _ _)).mono ?_; rintro e w1 ⟨rfl, hk1⟩
  go_wp2_with fail
  go_ret
  exact ⟨rfl, ((Below.refl _ _).alloc (Nat.le_refl _) _).trans (hk1.mono (by simp))⟩

def bSlotsI (c : Cfg) : Int := if Good c then slotsSumI c else 0

theorem of_Slots (c : Cfg) (bc : Nat) (w : World) (hb : Blk w bc 24 [.int .i64 c.c0, .int .i64 c.c1, .int .i64 c.c2, .int .i64 c.c3, .int .i64 c.c4, .int .i64 c.mks, .int .i64 c.mus, .int .i64 c.dq, .int .i64 c.ch, .int .i64 c.bu, .int .i64 c.ro, .int .i64 c.sw]) :
    Calls Try.prog 17 #[.agg #[.int .i64 c.c0, .int .i64 c.c1, .int .i64 c.c2, .int .i64 c.c3, .int .i64 c.c4, .int .i64 c.mks, .int .i64 c.mus, .int .i64 c.dq, .int .i64 c.ch, .int .i64 c.bu, .int .i64 c.ro, .int .i64 c.sw], .func (.func 21) #[] #[.pointer (some ⟨bc, 0, none⟩)]] w fun e w' => e = .returned (.int .i64 (bSlotsI c)) ∧ Kept w w' := by
  by_cases hg : Good c
  · have he : errI c = 0 := by unfold errI; rw [if_pos hg]
    have HG : Hid (Good c) := hg
    rw [show bSlotsI c = slotsSumI c from if_pos hg]
    clear hg
    go_enter Try.func17, Try.ntmps17
    go_wp2_with fail
    refine (check_any _ _).mono ?_; rintro e w1 ⟨rfl, hk1⟩
    rw [he]
    go_wp2_with fail
    refine (slots1_any c bc _ ((hb.alloc _).kept hk1) HG.out).mono ?_; rintro e w2 ⟨rfl, hk2⟩
    go_wp2_with fail
    go_ret
    exact ⟨rfl, ((Below.refl _ _).alloc (Nat.le_refl _) _).trans ((hk1.trans' hk2).mono (by simp))⟩
  · have he : errI c = 21 := by unfold errI; rw [if_neg hg]
    rw [show bSlotsI c = 0 from if_neg hg]
    clear hg
    go_enter Try.func17, Try.ntmps17
    go_wp2_with fail
    refine (check_any _ _).mono ?_; rintro e w1 ⟨rfl, hk1⟩
    rw [he]
    go_wp2_with fail
    go_ret
    exact ⟨rfl, ((Below.refl _ _).alloc (Nat.le_refl _) _).trans (hk1.mono (by simp))⟩

/-- 'Slots' of a configuration; 0 of one that may not be. -/
theorem bSlots_any (c : Cfg) (w : World) :
    Calls Try.prog 9 #[.agg #[.int .i64 c.c0, .int .i64 c.c1, .int .i64 c.c2, .int .i64 c.c3, .int .i64 c.c4, .int .i64 c.mks, .int .i64 c.mus, .int .i64 c.dq, .int .i64 c.ch, .int .i64 c.bu, .int .i64 c.ro, .int .i64 c.sw]] w fun e w' => e = .returned (.int .i64 (bSlotsI c)) ∧ Kept w w' := by
  go_enter Try.func9, Try.ntmps9
  go_wp2_with fail
  refine (of_Slots c _ _ (Blk.new w _ _)).mono ?_; rintro e w1 ⟨rfl, hk1⟩
  go_wp2_with fail
  go_ret
  exact ⟨rfl, ((Below.refl _ _).alloc (Nat.le_refl _) _).trans (hk1.mono (by simp))⟩

theorem events1_any (c : Cfg) (bc : Nat) (w : World) (hb : Blk w bc 24 [.int .i64 c.c0, .int .i64 c.c1, .int .i64 c.c2, .int .i64 c.c3, .int .i64 c.c4, .int .i64 c.mks, .int .i64 c.mus, .int .i64 c.dq, .int .i64 c.ch, .int .i64 c.bu, .int .i64 c.ro, .int .i64 c.sw]) (hg : Good c) :
    Calls Try.prog 22 #[.pointer (some ⟨bc, 0, none⟩)] w fun e w' => e = .returned (.int .i64 (eventsI c)) ∧ Kept w w' := by
  have c0 := hb.cell 0
  have c1 := hb.cell 1
  have c2 := hb.cell 2
  have c3 := hb.cell 3
  have c4 := hb.cell 4
  have c5 := hb.cell 5
  have c6 := hb.cell 6
  have c7 := hb.cell 7
  have c8 := hb.cell 8
  have c9 := hb.cell 9
  have c10 := hb.cell 10
  have c11 := hb.cell 11
  have hlt := hb.lt
  have hT : bTasksI c = tasksI c := if_pos hg
  have hS : bSlotsI c = slotsSumI c := if_pos hg
  have t0 := (tasks_bound hg).1
  have t1 := (tasks_bound hg).2
  have s0 := (slotsSum_bound hg).1
  have s1 := (slotsSum_bound hg).2
  have p0 := (aT_bound hg).1
  have p1 := (aT_bound hg).2
  have hm := hg.2.2.2.2.2.1
  have hu := hg.2.2.2.2.2.2.1
  obtain ⟨hm0, hm1⟩ := hm
  obtain ⟨hu0, hu1⟩ := hu
  have E : Hid (eventsI c = 40 * tasksI c + 20 * slotsSumI c + 8 * (c.mks + c.mus + 1) * tasksI c + 8 * (c.mks + c.mus + 1)) := rfl
  have cT := fun W => bTasks_any c W
  have cS := fun W => bSlots_any c W
  rw [hT] at cT
  rw [hS] at cS
  have CT : Hid _ := cT
  have CS : Hid _ := cS
  clear hT hS hg hb cT cS
  go_enter Try.func22, Try.ntmps22
  go_wp2_with fail
  go_region_held3 (fun w' => w'.cell? ⟨bc, 0, none⟩ = some (.int .i64 c.c0) ∧ w'.cell? ⟨bc, 1, none⟩ = some (.int .i64 c.c1) ∧ w'.cell? ⟨bc, 2, none⟩ = some (.int .i64 c.c2) ∧ w'.cell? ⟨bc, 3, none⟩ = some (.int .i64 c.c3) ∧ w'.cell? ⟨bc, 4, none⟩ = some (.int .i64 c.c4) ∧ w'.cell? ⟨bc, 5, none⟩ = some (.int .i64 c.mks) ∧ w'.cell? ⟨bc, 6, none⟩ = some (.int .i64 c.mus) ∧ w'.cell? ⟨bc, 7, none⟩ = some (.int .i64 c.dq) ∧ w'.cell? ⟨bc, 8, none⟩ = some (.int .i64 c.ch) ∧ w'.cell? ⟨bc, 9, none⟩ = some (.int .i64 c.bu) ∧ w'.cell? ⟨bc, 10, none⟩ = some (.int .i64 c.ro) ∧ w'.cell? ⟨bc, 11, none⟩ = some (.int .i64 c.sw))
    (first | exact ⟨c0, c1, c2, c3, c4, c5, c6, c7, c8, c9, c10, c11⟩ | (have hcc := fun i => Below.cell (hk1) (p := ⟨bc, i, none⟩) hlt; exact ⟨(hcc 0).trans c0, (hcc 1).trans c1, (hcc 2).trans c2, (hcc 3).trans c3, (hcc 4).trans c4, (hcc 5).trans c5, (hcc 6).trans c6, (hcc 7).trans c7, (hcc 8).trans c8, (hcc 9).trans c9, (hcc 10).trans c10, (hcc 11).trans c11⟩) | (have hcc := fun i => Below.cell (hk1.trans' hk2) (p := ⟨bc, i, none⟩) hlt; exact ⟨(hcc 0).trans c0, (hcc 1).trans c1, (hcc 2).trans c2, (hcc 3).trans c3, (hcc 4).trans c4, (hcc 5).trans c5, (hcc 6).trans c6, (hcc 7).trans c7, (hcc 8).trans c8, (hcc 9).trans c9, (hcc 10).trans c10, (hcc 11).trans c11⟩) | (have hcc := fun i => Below.cell ((hk1.trans' hk2).trans' hk3) (p := ⟨bc, i, none⟩) hlt; exact ⟨(hcc 0).trans c0, (hcc 1).trans c1, (hcc 2).trans c2, (hcc 3).trans c3, (hcc 4).trans c4, (hcc 5).trans c5, (hcc 6).trans c6, (hcc 7).trans c7, (hcc 8).trans c8, (hcc 9).trans c9, (hcc 10).trans c10, (hcc 11).trans c11⟩))
    (first | (go_at_call 9; refine (CS.out _).mono ?_; rintro e w2 ⟨rfl, hk2⟩) | (go_at_call 8; refine (CT.out _).mono ?_; first | (have := hk2; rintro e w3 ⟨rfl, hk3⟩) | rintro e w1 ⟨rfl, hk1⟩))
  go_wp2_with fail
  go_ret
  refine ⟨ret_int ?_, ((Below.refl _ _).drew).trans ((hk1.trans' hk2).trans' hk3)⟩
  rw [E.out]
  generalize hp : 8 * (c.mks + c.mus + 1) * tasksI c = p at *
  rw [IntWalk.i64_in (40 * tasksI c) (by omega), IntWalk.i64_in (20 * slotsSumI c) (by omega), IntWalk.i64_in (8 * (c.mks + c.mus + 1)) (by omega), hp, IntWalk.i64_in p (by omega),
    IntWalk.i64_in (40 * tasksI c + 20 * slotsSumI c) (by omega), IntWalk.i64_in (40 * tasksI c + 20 * slotsSumI c + p) (by omega), IntWalk.i64_in _ (by omega)]

def bEventsI (c : Cfg) : Int := if Good c then eventsI c else 0

theorem of_Events (c : Cfg) (bc : Nat) (w : World) (hb : Blk w bc 24 [.int .i64 c.c0, .int .i64 c.c1, .int .i64 c.c2, .int .i64 c.c3, .int .i64 c.c4, .int .i64 c.mks, .int .i64 c.mus, .int .i64 c.dq, .int .i64 c.ch, .int .i64 c.bu, .int .i64 c.ro, .int .i64 c.sw]) :
    Calls Try.prog 17 #[.agg #[.int .i64 c.c0, .int .i64 c.c1, .int .i64 c.c2, .int .i64 c.c3, .int .i64 c.c4, .int .i64 c.mks, .int .i64 c.mus, .int .i64 c.dq, .int .i64 c.ch, .int .i64 c.bu, .int .i64 c.ro, .int .i64 c.sw], .func (.func 22) #[] #[.pointer (some ⟨bc, 0, none⟩)]] w fun e w' => e = .returned (.int .i64 (bEventsI c)) ∧ Kept w w' := by
  by_cases hg : Good c
  · have he : errI c = 0 := by unfold errI; rw [if_pos hg]
    have HG : Hid (Good c) := hg
    rw [show bEventsI c = eventsI c from if_pos hg]
    clear hg
    go_enter Try.func17, Try.ntmps17
    go_wp2_with fail
    refine (check_any _ _).mono ?_; rintro e w1 ⟨rfl, hk1⟩
    rw [he]
    go_wp2_with fail
    refine (events1_any c bc _ ((hb.alloc _).kept hk1) HG.out).mono ?_; rintro e w2 ⟨rfl, hk2⟩
    go_wp2_with fail
    go_ret
    exact ⟨rfl, ((Below.refl _ _).alloc (Nat.le_refl _) _).trans ((hk1.trans' hk2).mono (by simp))⟩
  · have he : errI c = 21 := by unfold errI; rw [if_neg hg]
    rw [show bEventsI c = 0 from if_neg hg]
    clear hg
    go_enter Try.func17, Try.ntmps17
    go_wp2_with fail
    refine (check_any _ _).mono ?_; rintro e w1 ⟨rfl, hk1⟩
    rw [he]
    go_wp2_with fail
    go_ret
    exact ⟨rfl, ((Below.refl _ _).alloc (Nat.le_refl _) _).trans (hk1.mono (by simp))⟩

/-- 'Events' of a configuration; 0 of one that may not be. -/
theorem bEvents_any (c : Cfg) (w : World) :
    Calls Try.prog 10 #[.agg #[.int .i64 c.c0, .int .i64 c.c1, .int .i64 c.c2, .int .i64 c.c3, .int .i64 c.c4, .int .i64 c.mks, .int .i64 c.mus, .int .i64 c.dq, .int .i64 c.ch, .int .i64 c.bu, .int .i64 c.ro, .int .i64 c.sw]] w fun e w' => e = .returned (.int .i64 (bEventsI c)) ∧ Kept w w' := by
  go_enter Try.func10, Try.ntmps10
  go_wp2_with fail
  refine (of_Events c _ _ (Blk.new w _ _)).mono ?_; rintro e w1 ⟨rfl, hk1⟩
  go_wp2_with fail
  go_ret
  exact ⟨rfl, ((Below.refl _ _).alloc (Nat.le_refl _) _).trans (hk1.mono (by simp))⟩

theorem windows1_any (c : Cfg) (bc : Nat) (w : World) (hb : Blk w bc 24 [.int .i64 c.c0, .int .i64 c.c1, .int .i64 c.c2, .int .i64 c.c3, .int .i64 c.c4, .int .i64 c.mks, .int .i64 c.mus, .int .i64 c.dq, .int .i64 c.ch, .int .i64 c.bu, .int .i64 c.ro, .int .i64 c.sw]) (hg : Good c) :
    Calls Try.prog 23 #[.pointer (some ⟨bc, 0, none⟩)] w fun e w' => e = .returned (.int .i64 (windowsI c)) ∧ Kept w w' := by
  have c0 := hb.cell 0
  have c1 := hb.cell 1
  have c2 := hb.cell 2
  have c3 := hb.cell 3
  have c4 := hb.cell 4
  have c5 := hb.cell 5
  have c6 := hb.cell 6
  have c7 := hb.cell 7
  have c8 := hb.cell 8
  have c9 := hb.cell 9
  have c10 := hb.cell 10
  have c11 := hb.cell 11
  have hE : bEventsI c = eventsI c := if_pos hg
  have e0 := (events_bound hg).1
  have e1 := (events_bound hg).2
  have cE := fun W => bEvents_any c W
  rw [hE] at cE
  have CE : Hid _ := cE
  clear hE hg hb cE
  go_enter Try.func23, Try.ntmps23
  go_wp2_with fail
  refine (CE.out _).mono ?_; rintro e w1 ⟨rfl, hk1⟩
  go_wp2_with fail
  go_ret
  exact ⟨rfl, hk1⟩

def bWindowsI (c : Cfg) : Int := if Good c then windowsI c else 0

theorem of_Windows (c : Cfg) (bc : Nat) (w : World) (hb : Blk w bc 24 [.int .i64 c.c0, .int .i64 c.c1, .int .i64 c.c2, .int .i64 c.c3, .int .i64 c.c4, .int .i64 c.mks, .int .i64 c.mus, .int .i64 c.dq, .int .i64 c.ch, .int .i64 c.bu, .int .i64 c.ro, .int .i64 c.sw]) :
    Calls Try.prog 17 #[.agg #[.int .i64 c.c0, .int .i64 c.c1, .int .i64 c.c2, .int .i64 c.c3, .int .i64 c.c4, .int .i64 c.mks, .int .i64 c.mus, .int .i64 c.dq, .int .i64 c.ch, .int .i64 c.bu, .int .i64 c.ro, .int .i64 c.sw], .func (.func 23) #[] #[.pointer (some ⟨bc, 0, none⟩)]] w fun e w' => e = .returned (.int .i64 (bWindowsI c)) ∧ Kept w w' := by
  by_cases hg : Good c
  · have he : errI c = 0 := by unfold errI; rw [if_pos hg]
    have HG : Hid (Good c) := hg
    rw [show bWindowsI c = windowsI c from if_pos hg]
    clear hg
    go_enter Try.func17, Try.ntmps17
    go_wp2_with fail
    refine (check_any _ _).mono ?_; rintro e w1 ⟨rfl, hk1⟩
    rw [he]
    go_wp2_with fail
    refine (windows1_any c bc _ ((hb.alloc _).kept hk1) HG.out).mono ?_; rintro e w2 ⟨rfl, hk2⟩
    go_wp2_with fail
    go_ret
    exact ⟨rfl, ((Below.refl _ _).alloc (Nat.le_refl _) _).trans ((hk1.trans' hk2).mono (by simp))⟩
  · have he : errI c = 21 := by unfold errI; rw [if_neg hg]
    rw [show bWindowsI c = 0 from if_neg hg]
    clear hg
    go_enter Try.func17, Try.ntmps17
    go_wp2_with fail
    refine (check_any _ _).mono ?_; rintro e w1 ⟨rfl, hk1⟩
    rw [he]
    go_wp2_with fail
    go_ret
    exact ⟨rfl, ((Below.refl _ _).alloc (Nat.le_refl _) _).trans (hk1.mono (by simp))⟩

/-- 'Windows' of a configuration; 0 of one that may not be. -/
theorem bWindows_any (c : Cfg) (w : World) :
    Calls Try.prog 11 #[.agg #[.int .i64 c.c0, .int .i64 c.c1, .int .i64 c.c2, .int .i64 c.c3, .int .i64 c.c4, .int .i64 c.mks, .int .i64 c.mus, .int .i64 c.dq, .int .i64 c.ch, .int .i64 c.bu, .int .i64 c.ro, .int .i64 c.sw]] w fun e w' => e = .returned (.int .i64 (bWindowsI c)) ∧ Kept w w' := by
  go_enter Try.func11, Try.ntmps11
  go_wp2_with fail
  refine (of_Windows c _ _ (Blk.new w _ _)).mono ?_; rintro e w1 ⟨rfl, hk1⟩
  go_wp2_with fail
  go_ret
  exact ⟨rfl, ((Below.refl _ _).alloc (Nat.le_refl _) _).trans (hk1.mono (by simp))⟩

def wideI (n : Int) : Int := min (max n 1) 1000

theorem bWindowsI_bound (c : Cfg) : 0 ≤ bWindowsI c ∧ bWindowsI c ≤ 500000000 := by
  unfold bWindowsI
  split
  · next h => have := events_bound h; unfold windowsI; omega
  · omega

theorem bSteps_any (c : Cfg) (n : Int) (w : World) :
    Calls Try.prog 12 #[.agg #[.int .i64 c.c0, .int .i64 c.c1, .int .i64 c.c2, .int .i64 c.c3, .int .i64 c.c4, .int .i64 c.mks, .int .i64 c.mus, .int .i64 c.dq, .int .i64 c.ch, .int .i64 c.bu, .int .i64 c.ro, .int .i64 c.sw], .int .i64 n] w fun e w' => e = .returned (.int .i64 (bWindowsI c * wideI n)) ∧ Kept w w' := by
  have hb := bWindowsI_bound c
  obtain ⟨hb0, hb1⟩ := hb
  have hp : ∀ m : Int, 1 ≤ m → m ≤ 1000 → 0 ≤ bWindowsI c * m ∧ bWindowsI c * m ≤ 500000000000 := fun m h1 h2 => by
    refine ⟨Int.mul_nonneg hb0 (by omega), ?_⟩
    have := Int.mul_le_mul hb1 h2 (by omega) (by omega)
    omega
  have q1 : n < 1 → wideI n = 1 := fun h => by unfold wideI; omega
  have q2 : 1000 < n → wideI n = 1000 := fun h => by unfold wideI; omega
  have q3 : 1 ≤ n → n ≤ 1000 → wideI n = n := fun h h' => by unfold wideI; omega
  have hw : 1 ≤ wideI n ∧ wideI n ≤ 1000 := by unfold wideI; omega
  rcases (by omega : n < 1 ∨ 1000 < n ∨ (1 ≤ n ∧ n ≤ 1000)) with h | h | ⟨h, h'⟩
  · have hp1 := hp 1 (by omega) (by omega)
    rw [q1 h, Int.mul_one]
    clear q1 q2 q3 hw hp
    go_enter Try.func12, Try.ntmps12
    go_wp2_with fail
    refine (bWindows_any _ _).mono ?_; rintro e w1 ⟨rfl, hk1⟩
    go_wp2_with fail
    go_ret
    exact ⟨rfl, ((Below.refl _ _).alloc (Nat.le_refl _) _).trans (hk1.mono (by simp))⟩
  · have hp1 := hp 1000 (by omega) (by omega)
    rw [q2 h]
    clear q1 q2 q3 hw hp
    obtain ⟨hp1, hp2⟩ := hp1
    go_enter Try.func12, Try.ntmps12
    go_wp2_with fail
    refine (bWindows_any _ _).mono ?_; rintro e w1 ⟨rfl, hk1⟩
    go_wp2_with fail
    go_ret
    exact ⟨rfl, ((Below.refl _ _).alloc (Nat.le_refl _) _).trans (hk1.mono (by simp))⟩
  · have hp1 := hp n (by omega) (by omega)
    rw [q3 h h']
    clear q1 q2 q3 hw hp
    obtain ⟨hp1, hp2⟩ := hp1
    go_enter Try.func12, Try.ntmps12
    go_wp2_with fail
    refine (bWindows_any _ _).mono ?_; rintro e w1 ⟨rfl, hk1⟩
    go_wp2_with fail
    go_ret
    exact ⟨rfl, ((Below.refl _ _).alloc (Nat.le_refl _) _).trans (hk1.mono (by simp))⟩

end Go.Proofs.Ytfamlfemdegmpaa
