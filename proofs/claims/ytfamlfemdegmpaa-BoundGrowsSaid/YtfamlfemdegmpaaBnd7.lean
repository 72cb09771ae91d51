/- The references of the bounds, walked, as a whole. -/
import Derived.Test.YtfamlfemdegmpaaBnd6
namespace Go.Proofs.Ytfamlfemdegmpaa
open Go.RowKit

theorem refslotsum_any (c : Cfg) (w : World) (hg : Good c) :
    Calls Try.prog 15 #[.agg #[.int .i64 c.c0, .int .i64 c.c1, .int .i64 c.c2, .int .i64 c.c3, .int .i64 c.c4, .int .i64 c.mks, .int .i64 c.mus, .int .i64 c.dq, .int .i64 c.ch, .int .i64 c.bu, .int .i64 c.ro, .int .i64 c.sw]] w fun r w' => r = .returned (.int .i64 (slotsSumI c)) ∧ Kept w w' := by
  have hlen := roomsC_len hg
  have ET : Hid (slotsSumI c = sumI (roomsC c)) := rfl
  have hmem : ∀ x ∈ roomsC c, 1 ≤ x ∧ x ≤ 16 := roomsI_mem _ 5 (by omega)
  have CR : Hid (∀ W, Calls Try.prog 24 #[.agg #[.int .i64 c.c0, .int .i64 c.c1, .int .i64 c.c2, .int .i64 c.c3, .int .i64 c.c4, .int .i64 c.mks, .int .i64 c.mus, .int .i64 c.dq, .int .i64 c.ch, .int .i64 c.bu, .int .i64 c.ro, .int .i64 c.sw]] W fun r w' =>
      ∃ v, r = .returned v ∧ w'.ownsRow W.heap.size 3 1 v (roomsC c).length ((roomsC c).map (Value.int .i64)) ∧ Kept W w') := fun W => rooms_ref c W hg
  clear hg
  go_enter Try.func15, Try.ntmps15
  go_wp2_with fail
  refine (CR.out _).mono ?_; rintro e w1 ⟨v1, rfl, hown, hk1⟩
  have hkw : Kept w w1 := ((Below.refl _ _).alloc (Nat.le_refl _) _).trans (hk1.mono (by simp))
  have hrow := Row.ofOwn hown
  generalize hl : roomsC c = l at *
  clear hl hown hk1 CR
  obtain ⟨ao, cap, rfl, hm, hc⟩ := hrow.ex
  rw [List.length_map] at *
  have H : Hid (∀ i, i < l.length → ∃ g, ao = some ⟨g, 0, none⟩ ∧ g < w1.heap.size ∧ w1.cell? ⟨g, i, none⟩ = some (.int .i64 (l[i]?.getD 0))) := fun i hi => by
    refine hc i _ ?_
    simp [List.getElem?_eq_getElem hi]
  clear hc hm hrow
  go_wp2_with fail
  go_loop [3, 5] (fun t i => ∃ k : Nat, k ≤ l.length ∧ i = .int .i64 k ∧ t = .int .i64 (sumI (l.take k))) (fun _ i => l.length - (intOf i).toNat)
  case atStart => exact ⟨0, by omega, rfl, rfl⟩
  case round =>
    obtain ⟨k, hk, rfl, rfl⟩ := hrel
    by_cases hlt : (k : Int) < l.length
    · obtain ⟨g, rfl, hg, hcell⟩ := H.out k (by omega)
      have hb1 := sumI_bound (l.take k) 16 (fun x hx => by have := hmem x (List.mem_of_mem_take hx); omega)
      have hb2 : (l.take k).length ≤ 60 := by simp; omega
      obtain ⟨hb0, hb1⟩ := hb1
      have hb3 : sumI (l.take k) ≤ 960 := by omega
      have hx : 0 ≤ l[k]?.getD 0 ∧ l[k]?.getD 0 ≤ 16 := by
        rw [List.getElem?_eq_getElem (by omega)]; have := hmem (l[k]'(by omega)) (List.getElem_mem _); simp; omega
      obtain ⟨hx0, hx1⟩ := hx
      have S1 : Hid (sumI (l.take (k + 1)) = sumI (l.take k) + l[k]?.getD 0) := sumI_take_succ _ _ (by omega)
      clear hb1 hb2
      generalize sumI (l.take k) = tk at *
      generalize l[k]?.getD 0 = xk at *
      go_wp2_with fail
      refine ⟨⟨k + 1, by omega, by go_num, by rw [S1.out]⟩, by simp [intOf]; omega⟩
    · obtain rfl : k = l.length := by omega
      go_wp2_with fail
      go_ret
      exact ⟨ret_int (by rw [ET.out]), hkw⟩

theorem refwindows_any (c : Cfg) (w : World) (hg : Good c) :
    Calls Try.prog 13 #[.agg #[.int .i64 c.c0, .int .i64 c.c1, .int .i64 c.c2, .int .i64 c.c3, .int .i64 c.c4, .int .i64 c.mks, .int .i64 c.mus, .int .i64 c.dq, .int .i64 c.ch, .int .i64 c.bu, .int .i64 c.ro, .int .i64 c.sw]] w fun r w' => r = .returned (.int .i64 (windowsI c)) ∧ Kept w w' := by
  have t0 := (tasks_bound hg).1
  have t1 := (tasks_bound hg).2
  have s0 := (slotsSum_bound hg).1
  have s1 := (slotsSum_bound hg).2
  have p0 := (aT_bound hg).1
  have p1 := (aT_bound hg).2
  have hm := hg.2.2.2.2.2.1
  have hu := hg.2.2.2.2.2.2.1
  obtain ⟨hm0, hm1⟩ := hm
  obtain ⟨hu0, hu1⟩ := hu
  have e0 := (events_bound hg).1
  have e1 := (events_bound hg).2
  have E : Hid (eventsI c = 40 * tasksI c + 20 * slotsSumI c + 8 * (c.mks + c.mus + 1) * tasksI c + 8 * (c.mks + c.mus + 1)) := rfl
  have CT : Hid (∀ W, Calls Try.prog 14 #[.agg #[.int .i64 c.c0, .int .i64 c.c1, .int .i64 c.c2, .int .i64 c.c3, .int .i64 c.c4, .int .i64 c.mks, .int .i64 c.mus, .int .i64 c.dq, .int .i64 c.ch, .int .i64 c.bu, .int .i64 c.ro, .int .i64 c.sw]] W fun r w' => r = .returned (.int .i64 (tasksI c)) ∧ Kept W w') := fun W => reftasks_any c W hg
  have CS : Hid (∀ W, Calls Try.prog 15 #[.agg #[.int .i64 c.c0, .int .i64 c.c1, .int .i64 c.c2, .int .i64 c.c3, .int .i64 c.c4, .int .i64 c.mks, .int .i64 c.mus, .int .i64 c.dq, .int .i64 c.ch, .int .i64 c.bu, .int .i64 c.ro, .int .i64 c.sw]] W fun r w' => r = .returned (.int .i64 (slotsSumI c)) ∧ Kept W w') := fun W => refslotsum_any c W hg
  clear hg
  have hb : Blk (w.alloc (.cells #[.int .i64 c.c0, .int .i64 c.c1, .int .i64 c.c2, .int .i64 c.c3, .int .i64 c.c4, .int .i64 c.mks, .int .i64 c.mus, .int .i64 c.dq, .int .i64 c.ch, .int .i64 c.bu, .int .i64 c.ro, .int .i64 c.sw] 28)) w.heap.size 28 [.int .i64 c.c0, .int .i64 c.c1, .int .i64 c.c2, .int .i64 c.c3, .int .i64 c.c4, .int .i64 c.mks, .int .i64 c.mus, .int .i64 c.dq, .int .i64 c.ch, .int .i64 c.bu, .int .i64 c.ro, .int .i64 c.sw] := Blk.new w _ _
  have c0 := hb.cell 0
  have c1 := hb.cell 1
  have c2 := hb.cell 2
  have c3 := hb.cell 3
  have c4 := hb.cell 4
  have c5 := hb.cell 5
  have c6 := hb.cell 6
  have c7 := hb.cell 7
  have c8 := hb.cell 8
  have c9 := hb.cell 9
  have c10 := hb.cell 10
  have c11 := hb.cell 11
  have hlt := hb.lt
  clear hb
  go_enter Try.func13, Try.ntmps13
  go_wp2_with fail
  generalize hW : w.alloc (.cells #[.int .i64 c.c0, .int .i64 c.c1, .int .i64 c.c2, .int .i64 c.c3, .int .i64 c.c4, .int .i64 c.mks, .int .i64 c.mus, .int .i64 c.dq, .int .i64 c.ch, .int .i64 c.bu, .int .i64 c.ro, .int .i64 c.sw] 28) = W at *
  have HW : Hid (w.alloc (.cells #[.int .i64 c.c0, .int .i64 c.c1, .int .i64 c.c2, .int .i64 c.c3, .int .i64 c.c4, .int .i64 c.mks, .int .i64 c.mus, .int .i64 c.dq, .int .i64 c.ch, .int .i64 c.bu, .int .i64 c.ro, .int .i64 c.sw] 28) = W) := hW
  clear hW
  go_region_held3 (fun w' => w'.cell? ⟨w.heap.size, 0, none⟩ = some (.int .i64 c.c0) ∧ w'.cell? ⟨w.heap.size, 1, none⟩ = some (.int .i64 c.c1) ∧ w'.cell? ⟨w.heap.size, 2, none⟩ = some (.int .i64 c.c2) ∧ w'.cell? ⟨w.heap.size, 3, none⟩ = some (.int .i64 c.c3) ∧ w'.cell? ⟨w.heap.size, 4, none⟩ = some (.int .i64 c.c4) ∧ w'.cell? ⟨w.heap.size, 5, none⟩ = some (.int .i64 c.mks) ∧ w'.cell? ⟨w.heap.size, 6, none⟩ = some (.int .i64 c.mus) ∧ w'.cell? ⟨w.heap.size, 7, none⟩ = some (.int .i64 c.dq) ∧ w'.cell? ⟨w.heap.size, 8, none⟩ = some (.int .i64 c.ch) ∧ w'.cell? ⟨w.heap.size, 9, none⟩ = some (.int .i64 c.bu) ∧ w'.cell? ⟨w.heap.size, 10, none⟩ = some (.int .i64 c.ro) ∧ w'.cell? ⟨w.heap.size, 11, none⟩ = some (.int .i64 c.sw))
    (first | exact ⟨c0, c1, c2, c3, c4, c5, c6, c7, c8, c9, c10, c11⟩ | (have hcc := fun i => Below.cell (hk1) (p := ⟨w.heap.size, i, none⟩) hlt; exact ⟨(hcc 0).trans c0, (hcc 1).trans c1, (hcc 2).trans c2, (hcc 3).trans c3, (hcc 4).trans c4, (hcc 5).trans c5, (hcc 6).trans c6, (hcc 7).trans c7, (hcc 8).trans c8, (hcc 9).trans c9, (hcc 10).trans c10, (hcc 11).trans c11⟩) | (have hcc := fun i => Below.cell (hk1.trans' hk2) (p := ⟨w.heap.size, i, none⟩) hlt; exact ⟨(hcc 0).trans c0, (hcc 1).trans c1, (hcc 2).trans c2, (hcc 3).trans c3, (hcc 4).trans c4, (hcc 5).trans c5, (hcc 6).trans c6, (hcc 7).trans c7, (hcc 8).trans c8, (hcc 9).trans c9, (hcc 10).trans c10, (hcc 11).trans c11⟩) | (have hcc := fun i => Below.cell ((hk1.trans' hk2).trans' hk3) (p := ⟨w.heap.size, i, none⟩) hlt; exact ⟨(hcc 0).trans c0, (hcc 1).trans c1, (hcc 2).trans c2, (hcc 3).trans c3, (hcc 4).trans c4, (hcc 5).trans c5, (hcc 6).trans c6, (hcc 7).trans c7, (hcc 8).trans c8, (hcc 9).trans c9, (hcc 10).trans c10, (hcc 11).trans c11⟩))
    (first | (go_at_call 15; refine (CS.out _).mono ?_; rintro e w2 ⟨rfl, hk2⟩) | (go_at_call 14; refine (CT.out _).mono ?_; first | (have := hk2; rintro e w3 ⟨rfl, hk3⟩) | rintro e w1 ⟨rfl, hk1⟩))
  have E2 : Hid (IntKind.i64.wrap (IntKind.i64.wrap (IntKind.i64.wrap (IntKind.i64.wrap (40 * tasksI c) + IntKind.i64.wrap (20 * slotsSumI c)) + IntKind.i64.wrap (IntKind.i64.wrap (8 * (c.mks + c.mus + 1)) * tasksI c)) + IntKind.i64.wrap (8 * (c.mks + c.mus + 1))) = eventsI c) := by
    unfold Hid
    rw [E.out]
    generalize hp : 8 * (c.mks + c.mus + 1) * tasksI c = p at *
    rw [IntWalk.i64_in (40 * tasksI c) (by omega), IntWalk.i64_in (20 * slotsSumI c) (by omega), IntWalk.i64_in (8 * (c.mks + c.mus + 1)) (by omega), hp, IntWalk.i64_in p (by omega),
      IntWalk.i64_in (40 * tasksI c + 20 * slotsSumI c) (by omega), IntWalk.i64_in (40 * tasksI c + 20 * slotsSumI c + p) (by omega), IntWalk.i64_in _ (by omega)]
  rw [E2.out]
  go_wp2_with fail
  go_ret
  refine ⟨rfl, ?_⟩
  have h0 : Kept w W := by rw [← HW.out]; exact (Below.refl _ _).alloc (Nat.le_refl _) _
  exact h0.trans' (((Below.refl _ _).drew).trans ((hk1.trans' hk2).trans' hk3))

theorem model_any (c : Cfg) (w : World) :
    Calls Try.prog 7 #[.agg #[.int .i64 c.c0, .int .i64 c.c1, .int .i64 c.c2, .int .i64 c.c3, .int .i64 c.c4, .int .i64 c.mks, .int .i64 c.mus, .int .i64 c.dq, .int .i64 c.ch, .int .i64 c.bu, .int .i64 c.ro, .int .i64 c.sw]] w fun r w' => r = .returned (.agg #[.int .i64 c.c0, .int .i64 c.c1, .int .i64 c.c2, .int .i64 c.c3, .int .i64 c.c4, .int .i64 c.mks, .int .i64 c.mus, .int .i64 c.dq, .int .i64 c.ch, .int .i64 c.bu, .int .i64 c.ro, .int .i64 c.sw]) ∧ Kept w w' := by
  go_enter Try.func7, Try.ntmps7
  go_wp2_with fail
  refine bodyPost_ret (v := .agg #[.int .i64 c.c0, .int .i64 c.c1, .int .i64 c.c2, .int .i64 c.c3, .int .i64 c.c4, .int .i64 c.mks, .int .i64 c.mus, .int .i64 c.dq, .int .i64 c.ch, .int .i64 c.bu, .int .i64 c.ro, .int .i64 c.sw]) (by simp [results, Try.results7, go_sem]) rfl ⟨rfl, ?_⟩
  exact ((Below.refl _ _).alloc (Nat.le_refl _) _).alloc (by simp) _

end Go.Proofs.Ytfamlfemdegmpaa
