/- The reference's check, walked. -/
import Derived.Test.YtfamlfemdegmpaaBnd7
namespace Go.Proofs.Ytfamlfemdegmpaa
open Go.RowKit

theorem refin_is {n lo hi : Int} {b : Bool} (h : inB n lo hi = b) (w : World) :
    Calls Try.prog 16 #[.int .i64 n, .int .i64 lo, .int .i64 hi] w fun e w' => e = .returned (.bool b) ∧ w = w' := h ▸ refin_any n lo hi w

def anyPos (cs : List Int) (k : Nat) : Bool := (cs.take k).any fun x => decide (0 < x)

theorem anyPos_succ (cs : List Int) (k : Nat) (hk : k < cs.length) : anyPos cs (k + 1) = (anyPos cs k || decide (0 < cs[k]?.getD 0)) := by
  unfold anyPos
  rw [List.take_add_one, List.any_append, List.getElem?_eq_getElem hk]; simp

theorem anyPos_five {a b c d e : Int} (h : InTo [a, b, c, d, e] 5) : anyPos [a, b, c, d, e] 5 = true ↔ 0 < a + b + c + d + e := by
  have := h.five
  simp only [anyPos, List.take, List.any, Bool.or_false, Bool.or_eq_true, decide_eq_true_eq]
  omega

theorem errI_no {c : Cfg} (h : ¬ Good c) : errI c = 21 := if_neg h
theorem errI_yes {c : Cfg} (h : Good c) : errI c = 0 := if_pos h

set_option maxHeartbeats 3200000 in
theorem refcheck_any (c : Cfg) (w : World) :
    Calls Try.prog 6 #[.agg #[.int .i64 c.c0, .int .i64 c.c1, .int .i64 c.c2, .int .i64 c.c3, .int .i64 c.c4, .int .i64 c.mks, .int .i64 c.mus, .int .i64 c.dq, .int .i64 c.ch, .int .i64 c.bu, .int .i64 c.ro, .int .i64 c.sw]] w fun r w' => r = .returned (.int .i64 (errI c)) ∧ Kept w w' := by
  have hbx : Blk (w.alloc (.cells #[.int .i64 c.c0, .int .i64 c.c1, .int .i64 c.c2, .int .i64 c.c3, .int .i64 c.c4, .int .i64 c.mks, .int .i64 c.mus, .int .i64 c.dq, .int .i64 c.ch, .int .i64 c.bu, .int .i64 c.ro, .int .i64 c.sw] 28)) w.heap.size 28 [.int .i64 c.c0, .int .i64 c.c1, .int .i64 c.c2, .int .i64 c.c3, .int .i64 c.c4, .int .i64 c.mks, .int .i64 c.mus, .int .i64 c.dq, .int .i64 c.ch, .int .i64 c.bu, .int .i64 c.ro, .int .i64 c.sw] := Blk.new w _ _
  generalize hcs : [c.c0, c.c1, c.c2, c.c3, c.c4] = cs
  have hcell : ∀ k, k < 5 → (w.alloc (.cells #[.int .i64 c.c0, .int .i64 c.c1, .int .i64 c.c2, .int .i64 c.c3, .int .i64 c.c4, .int .i64 c.mks, .int .i64 c.mus, .int .i64 c.dq, .int .i64 c.ch, .int .i64 c.bu, .int .i64 c.ro, .int .i64 c.sw] 28)).cell? ⟨w.heap.size, k, none⟩ = some (.int .i64 (cs[k]?.getD 0)) := fun k hk => by
    rw [hbx.cell k, ← hcs]
    have : k = 0 ∨ k = 1 ∨ k = 2 ∨ k = 3 ∨ k = 4 := by omega
    rcases this with rfl | rfl | rfl | rfl | rfl <;> rfl
  have HC : Hid _ := hcell
  have HB : Hid _ := hbx
  have hl5 : Hid (cs.length = 5) := by rw [← hcs]; rfl
  clear hcell hbx
  go_enter Try.func6, Try.ntmps6
  go_wp2_with fail
  generalize hW : w.alloc (.cells #[.int .i64 c.c0, .int .i64 c.c1, .int .i64 c.c2, .int .i64 c.c3, .int .i64 c.c4, .int .i64 c.mks, .int .i64 c.mus, .int .i64 c.dq, .int .i64 c.ch, .int .i64 c.bu, .int .i64 c.ro, .int .i64 c.sw] 28) = W at *
  have HW : Hid (w.alloc (.cells #[.int .i64 c.c0, .int .i64 c.c1, .int .i64 c.c2, .int .i64 c.c3, .int .i64 c.c4, .int .i64 c.mks, .int .i64 c.mus, .int .i64 c.dq, .int .i64 c.ch, .int .i64 c.bu, .int .i64 c.ro, .int .i64 c.sw] 28) = W) := hW
  have hKW : Kept w W := by rw [← hW]; exact (Below.refl _ _).alloc (Nat.le_refl _) _
  clear hW
  go_loop [3, 4] (fun so i => ∃ k : Nat, k ≤ 5 ∧ i = .int .i64 k ∧ so = .bool (anyPos cs k) ∧ InTo cs k) (fun _ i => 5 - (intOf i).toNat)
  case atStart => exact ⟨0, by omega, rfl, rfl, fun j hj => by omega⟩
  case round =>
    obtain ⟨k, hk, rfl, rfl, hin⟩ := hrel
    by_cases hlt : (k : Int) < 5
    · have c0 := HC.out k (by omega)
      have hs := anyPos_succ cs k (by rw [hl5.out]; omega)
      by_cases hin1 : inB (cs[k]?.getD 0) 0 12 = false
      · clear hs
        go_wp2_with fail
        refine (refin_is hin1 _).mono ?_; rintro e w1 ⟨rfl, rfl⟩
        go_wp2_with fail
        go_ret
        exact ⟨ret_int (errI_bad (k := k) (by omega) (by rw [hcs]; exact hin1)).symm, hKW⟩
      · have hin2 : inB (cs[k]?.getD 0) 0 12 = true := by simpa using hin1
        have hgo := hin.succ hin2
        cases hb : anyPos cs k with
        | true =>
          rw [hb, Bool.true_or] at hs
          have HS : Hid (anyPos cs (k + 1) = true) := hs
          clear hs hb hin1
          go_wp2_with fail
          refine (refin_is hin2 _).mono ?_; rintro e w1 ⟨rfl, rfl⟩
          go_wp2_with fail
          refine ⟨⟨k + 1, by omega, by go_num, by rw [HS.out], hgo⟩, by simp [intOf]; omega⟩
        | false =>
          rw [hb, Bool.false_or] at hs
          have HS : Hid (anyPos cs (k + 1) = decide (0 < cs[k]?.getD 0)) := hs
          clear hs hb hin1
          go_wp2_with fail
          refine (refin_is hin2 _).mono ?_; rintro e w1 ⟨rfl, rfl⟩
          go_wp2_with fail
          refine ⟨⟨k + 1, by omega, by go_num, by rw [HS.out], hgo⟩, by simp [intOf]; omega⟩
    · obtain rfl : k = 5 := by omega
      rw [← hcs] at hin
      have A0 : Hid (anyPos [c.c0, c.c1, c.c2, c.c3, c.c4] 5 = true ↔ 0 < c.c0 + c.c1 + c.c2 + c.c3 + c.c4) := anyPos_five hin
      rw [hcs] at A0
      have H5 : Hid ((0 ≤ c.c0 ∧ c.c0 ≤ 12) ∧ (0 ≤ c.c1 ∧ c.c1 ≤ 12) ∧ (0 ≤ c.c2 ∧ c.c2 ≤ 12) ∧ (0 ≤ c.c3 ∧ c.c3 ≤ 12) ∧ (0 ≤ c.c4 ∧ c.c4 ≤ 12)) := hin.five
      have hbx : Blk W w.heap.size 28 [.int .i64 c.c0, .int .i64 c.c1, .int .i64 c.c2, .int .i64 c.c3, .int .i64 c.c4, .int .i64 c.mks, .int .i64 c.mus, .int .i64 c.dq, .int .i64 c.ch, .int .i64 c.bu, .int .i64 c.ro, .int .i64 c.sw] := HB.out
      have c5 := hbx.cell 5
      have c6 := hbx.cell 6
      have c7 := hbx.cell 7
      have c8 := hbx.cell 8
      have c9 := hbx.cell 9
      have c10 := hbx.cell 10
      have c11 := hbx.cell 11
      clear hin hcs hlt HC HB hl5 hbx
      generalize anyPos cs 5 = so at *
      by_cases g0 : inB c.mks 1 4 = false
      · by_cases b0 : inB c.bu 1 4 = false
        · cases so
          · go_wp2_with (go_at_call 16; refine (refin_is (by assumption) _).mono ?_; rintro e w1 ⟨rfl, rfl⟩)
            go_ret
            exact ⟨ret_int (errI_no (by unfold Good; rw [inB_not] at g0; omega)).symm, hKW⟩
          · go_wp2_with (go_at_call 16; refine (refin_is (by assumption) _).mono ?_; rintro e w1 ⟨rfl, rfl⟩)
            go_ret
            exact ⟨ret_int (errI_no (by unfold Good; rw [inB_not] at g0; omega)).symm, hKW⟩
        replace b0 : inB c.bu 1 4 = true := by simpa using b0
        by_cases b1 : inB c.ro 1 8 = false
        · cases so
          · go_wp2_with (go_at_call 16; refine (refin_is (by assumption) _).mono ?_; rintro e w1 ⟨rfl, rfl⟩)
            go_ret
            exact ⟨ret_int (errI_no (by unfold Good; rw [inB_not] at g0; omega)).symm, hKW⟩
          · go_wp2_with (go_at_call 16; refine (refin_is (by assumption) _).mono ?_; rintro e w1 ⟨rfl, rfl⟩)
            go_ret
            exact ⟨ret_int (errI_no (by unfold Good; rw [inB_not] at g0; omega)).symm, hKW⟩
        replace b1 : inB c.ro 1 8 = true := by simpa using b1
        by_cases b2 : inB c.sw 1 16 = false
        · cases so
          · go_wp2_with (go_at_call 16; refine (refin_is (by assumption) _).mono ?_; rintro e w1 ⟨rfl, rfl⟩)
            go_ret
            exact ⟨ret_int (errI_no (by unfold Good; rw [inB_not] at g0; omega)).symm, hKW⟩
          · go_wp2_with (go_at_call 16; refine (refin_is (by assumption) _).mono ?_; rintro e w1 ⟨rfl, rfl⟩)
            go_ret
            exact ⟨ret_int (errI_no (by unfold Good; rw [inB_not] at g0; omega)).symm, hKW⟩
        replace b2 : inB c.sw 1 16 = true := by simpa using b2
        cases so
        · go_wp2_with (go_at_call 16; refine (refin_is (by assumption) _).mono ?_; rintro e w1 ⟨rfl, rfl⟩)
          go_ret
          exact ⟨ret_int (errI_no (by unfold Good; rw [inB_not] at g0; omega)).symm, hKW⟩
        · go_wp2_with (go_at_call 16; refine (refin_is (by assumption) _).mono ?_; rintro e w1 ⟨rfl, rfl⟩)
          go_ret
          exact ⟨ret_int (errI_no (by unfold Good; rw [inB_not] at g0; omega)).symm, hKW⟩
      replace g0 : inB c.mks 1 4 = true := by simpa using g0
      by_cases g1 : inB c.mus 1 4 = false
      · by_cases b0 : inB c.bu 1 4 = false
        · cases so
          · go_wp2_with (go_at_call 16; refine (refin_is (by assumption) _).mono ?_; rintro e w1 ⟨rfl, rfl⟩)
            go_ret
            exact ⟨ret_int (errI_no (by unfold Good; rw [inB_not] at g1; omega)).symm, hKW⟩
          · go_wp2_with (go_at_call 16; refine (refin_is (by assumption) _).mono ?_; rintro e w1 ⟨rfl, rfl⟩)
            go_ret
            exact ⟨ret_int (errI_no (by unfold Good; rw [inB_not] at g1; omega)).symm, hKW⟩
        replace b0 : inB c.bu 1 4 = true := by simpa using b0
        by_cases b1 : inB c.ro 1 8 = false
        · cases so
          · go_wp2_with (go_at_call 16; refine (refin_is (by assumption) _).mono ?_; rintro e w1 ⟨rfl, rfl⟩)
            go_ret
            exact ⟨ret_int (errI_no (by unfold Good; rw [inB_not] at g1; omega)).symm, hKW⟩
          · go_wp2_with (go_at_call 16; refine (refin_is (by assumption) _).mono ?_; rintro e w1 ⟨rfl, rfl⟩)
            go_ret
            exact ⟨ret_int (errI_no (by unfold Good; rw [inB_not] at g1; omega)).symm, hKW⟩
        replace b1 : inB c.ro 1 8 = true := by simpa using b1
        by_cases b2 : inB c.sw 1 16 = false
        · cases so
          · go_wp2_with (go_at_call 16; refine (refin_is (by assumption) _).mono ?_; rintro e w1 ⟨rfl, rfl⟩)
            go_ret
            exact ⟨ret_int (errI_no (by unfold Good; rw [inB_not] at g1; omega)).symm, hKW⟩
          · go_wp2_with (go_at_call 16; refine (refin_is (by assumption) _).mono ?_; rintro e w1 ⟨rfl, rfl⟩)
            go_ret
            exact ⟨ret_int (errI_no (by unfold Good; rw [inB_not] at g1; omega)).symm, hKW⟩
        replace b2 : inB c.sw 1 16 = true := by simpa using b2
        cases so
        · go_wp2_with (go_at_call 16; refine (refin_is (by assumption) _).mono ?_; rintro e w1 ⟨rfl, rfl⟩)
          go_ret
          exact ⟨ret_int (errI_no (by unfold Good; rw [inB_not] at g1; omega)).symm, hKW⟩
        · go_wp2_with (go_at_call 16; refine (refin_is (by assumption) _).mono ?_; rintro e w1 ⟨rfl, rfl⟩)
          go_ret
          exact ⟨ret_int (errI_no (by unfold Good; rw [inB_not] at g1; omega)).symm, hKW⟩
      replace g1 : inB c.mus 1 4 = true := by simpa using g1
      by_cases g2 : inB c.dq 2 8 = false
      · by_cases b0 : inB c.bu 1 4 = false
        · cases so
          · go_wp2_with (go_at_call 16; refine (refin_is (by assumption) _).mono ?_; rintro e w1 ⟨rfl, rfl⟩)
            go_ret
            exact ⟨ret_int (errI_no (by unfold Good; rw [inB_not] at g2; omega)).symm, hKW⟩
          · go_wp2_with (go_at_call 16; refine (refin_is (by assumption) _).mono ?_; rintro e w1 ⟨rfl, rfl⟩)
            go_ret
            exact ⟨ret_int (errI_no (by unfold Good; rw [inB_not] at g2; omega)).symm, hKW⟩
        replace b0 : inB c.bu 1 4 = true := by simpa using b0
        by_cases b1 : inB c.ro 1 8 = false
        · cases so
          · go_wp2_with (go_at_call 16; refine (refin_is (by assumption) _).mono ?_; rintro e w1 ⟨rfl, rfl⟩)
            go_ret
            exact ⟨ret_int (errI_no (by unfold Good; rw [inB_not] at g2; omega)).symm, hKW⟩
          · go_wp2_with (go_at_call 16; refine (refin_is (by assumption) _).mono ?_; rintro e w1 ⟨rfl, rfl⟩)
            go_ret
            exact ⟨ret_int (errI_no (by unfold Good; rw [inB_not] at g2; omega)).symm, hKW⟩
        replace b1 : inB c.ro 1 8 = true := by simpa using b1
        by_cases b2 : inB c.sw 1 16 = false
        · cases so
          · go_wp2_with (go_at_call 16; refine (refin_is (by assumption) _).mono ?_; rintro e w1 ⟨rfl, rfl⟩)
            go_ret
            exact ⟨ret_int (errI_no (by unfold Good; rw [inB_not] at g2; omega)).symm, hKW⟩
          · go_wp2_with (go_at_call 16; refine (refin_is (by assumption) _).mono ?_; rintro e w1 ⟨rfl, rfl⟩)
            go_ret
            exact ⟨ret_int (errI_no (by unfold Good; rw [inB_not] at g2; omega)).symm, hKW⟩
        replace b2 : inB c.sw 1 16 = true := by simpa using b2
        cases so
        · go_wp2_with (go_at_call 16; refine (refin_is (by assumption) _).mono ?_; rintro e w1 ⟨rfl, rfl⟩)
          go_ret
          exact ⟨ret_int (errI_no (by unfold Good; rw [inB_not] at g2; omega)).symm, hKW⟩
        · go_wp2_with (go_at_call 16; refine (refin_is (by assumption) _).mono ?_; rintro e w1 ⟨rfl, rfl⟩)
          go_ret
          exact ⟨ret_int (errI_no (by unfold Good; rw [inB_not] at g2; omega)).symm, hKW⟩
      replace g2 : inB c.dq 2 8 = true := by simpa using g2
      by_cases g3 : inB c.ch 1 16 = false
      · by_cases b0 : inB c.bu 1 4 = false
        · cases so
          · go_wp2_with (go_at_call 16; refine (refin_is (by assumption) _).mono ?_; rintro e w1 ⟨rfl, rfl⟩)
            go_ret
            exact ⟨ret_int (errI_no (by unfold Good; rw [inB_not] at g3; omega)).symm, hKW⟩
          · go_wp2_with (go_at_call 16; refine (refin_is (by assumption) _).mono ?_; rintro e w1 ⟨rfl, rfl⟩)
            go_ret
            exact ⟨ret_int (errI_no (by unfold Good; rw [inB_not] at g3; omega)).symm, hKW⟩
        replace b0 : inB c.bu 1 4 = true := by simpa using b0
        by_cases b1 : inB c.ro 1 8 = false
        · cases so
          · go_wp2_with (go_at_call 16; refine (refin_is (by assumption) _).mono ?_; rintro e w1 ⟨rfl, rfl⟩)
            go_ret
            exact ⟨ret_int (errI_no (by unfold Good; rw [inB_not] at g3; omega)).symm, hKW⟩
          · go_wp2_with (go_at_call 16; refine (refin_is (by assumption) _).mono ?_; rintro e w1 ⟨rfl, rfl⟩)
            go_ret
            exact ⟨ret_int (errI_no (by unfold Good; rw [inB_not] at g3; omega)).symm, hKW⟩
        replace b1 : inB c.ro 1 8 = true := by simpa using b1
        by_cases b2 : inB c.sw 1 16 = false
        · cases so
          · go_wp2_with (go_at_call 16; refine (refin_is (by assumption) _).mono ?_; rintro e w1 ⟨rfl, rfl⟩)
            go_ret
            exact ⟨ret_int (errI_no (by unfold Good; rw [inB_not] at g3; omega)).symm, hKW⟩
          · go_wp2_with (go_at_call 16; refine (refin_is (by assumption) _).mono ?_; rintro e w1 ⟨rfl, rfl⟩)
            go_ret
            exact ⟨ret_int (errI_no (by unfold Good; rw [inB_not] at g3; omega)).symm, hKW⟩
        replace b2 : inB c.sw 1 16 = true := by simpa using b2
        cases so
        · go_wp2_with (go_at_call 16; refine (refin_is (by assumption) _).mono ?_; rintro e w1 ⟨rfl, rfl⟩)
          go_ret
          exact ⟨ret_int (errI_no (by unfold Good; rw [inB_not] at g3; omega)).symm, hKW⟩
        · go_wp2_with (go_at_call 16; refine (refin_is (by assumption) _).mono ?_; rintro e w1 ⟨rfl, rfl⟩)
          go_ret
          exact ⟨ret_int (errI_no (by unfold Good; rw [inB_not] at g3; omega)).symm, hKW⟩
      replace g3 : inB c.ch 1 16 = true := by simpa using g3
      by_cases b0 : inB c.bu 1 4 = false
      · cases so
        · go_wp2_with (go_at_call 16; refine (refin_is (by assumption) _).mono ?_; rintro e w1 ⟨rfl, rfl⟩)
          go_ret
          exact ⟨ret_int (errI_no (by unfold Good; rw [inB_not] at b0; omega)).symm, hKW⟩
        · go_wp2_with (go_at_call 16; refine (refin_is (by assumption) _).mono ?_; rintro e w1 ⟨rfl, rfl⟩)
          go_ret
          exact ⟨ret_int (errI_no (by unfold Good; rw [inB_not] at b0; omega)).symm, hKW⟩
      replace b0 : inB c.bu 1 4 = true := by simpa using b0
      by_cases b1 : inB c.ro 1 8 = false
      · cases so
        · go_wp2_with (go_at_call 16; refine (refin_is (by assumption) _).mono ?_; rintro e w1 ⟨rfl, rfl⟩)
          go_ret
          exact ⟨ret_int (errI_no (by unfold Good; rw [inB_not] at b1; omega)).symm, hKW⟩
        · go_wp2_with (go_at_call 16; refine (refin_is (by assumption) _).mono ?_; rintro e w1 ⟨rfl, rfl⟩)
          go_ret
          exact ⟨ret_int (errI_no (by unfold Good; rw [inB_not] at b1; omega)).symm, hKW⟩
      replace b1 : inB c.ro 1 8 = true := by simpa using b1
      by_cases b2 : inB c.sw 1 16 = false
      · cases so
        · go_wp2_with (go_at_call 16; refine (refin_is (by assumption) _).mono ?_; rintro e w1 ⟨rfl, rfl⟩)
          go_ret
          exact ⟨ret_int (errI_no (by unfold Good; rw [inB_not] at b2; omega)).symm, hKW⟩
        · go_wp2_with (go_at_call 16; refine (refin_is (by assumption) _).mono ?_; rintro e w1 ⟨rfl, rfl⟩)
          go_ret
          exact ⟨ret_int (errI_no (by unfold Good; rw [inB_not] at b2; omega)).symm, hKW⟩
      replace b2 : inB c.sw 1 16 = true := by simpa using b2
      cases so
      · go_wp2_with (go_at_call 16; refine (refin_is (by assumption) _).mono ?_; rintro e w1 ⟨rfl, rfl⟩)
        go_ret
        exact ⟨ret_int (errI_no (fun hg => by have := A0.out; simp at this; unfold Good at hg; omega)).symm, hKW⟩
      · go_wp2_with (go_at_call 16; refine (refin_is (by assumption) _).mono ?_; rintro e w1 ⟨rfl, rfl⟩)
        go_ret
        have h5 := H5.out
        have a0 := A0.out.1 (by trivial)
        have ga0 := (inB_iff _ _ _).1 g0
        have ga1 := (inB_iff _ _ _).1 g1
        have ga2 := (inB_iff _ _ _).1 g2
        have ga3 := (inB_iff _ _ _).1 g3
        have gb0 := (inB_iff _ _ _).1 b0
        have gb1 := (inB_iff _ _ _).1 b1
        have gb2 := (inB_iff _ _ _).1 b2
        exact ⟨ret_int (errI_yes (by unfold Good; omega)).symm, hKW⟩

end Go.Proofs.Ytfamlfemdegmpaa
