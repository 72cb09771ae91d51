/- A law's test of a configuration: the reference's Check: walked. -/
import Derived.Test.YtfbcadknimfhjaaPkA
namespace Go.Proofs.Ytfbcadknimfhjaa
open Go.RowKit

theorem refIn_is {n lo hi : Int} {b : Bool} (h : inB n lo hi = b) (w : World) :
    Calls Try.prog 45 #[.int .i64 n, .int .i64 lo, .int .i64 hi] w fun e w' => e = .returned (.bool b) ∧ w = w' := by
  subst h
  go_enter Try.func45, Try.ntmps45
  go_wp2
  all_goals go_ret
  all_goals exact ⟨ret_bool (by unfold inB; simp; omega), rfl⟩

theorem four_or (a b c d : Bool) : (a = false) ∨ (a = true ∧ b = false) ∨ (a = true ∧ b = true ∧ c = false) ∨ (a = true ∧ b = true ∧ c = true ∧ d = false) ∨ (a = true ∧ b = true ∧ c = true ∧ d = true) := by
  cases a <;> cases b <;> cases c <;> cases d <;> simp
theorem three_or (a b c : Bool) : (a = false) ∨ (a = true ∧ b = false) ∨ (a = true ∧ b = true ∧ c = false) ∨ (a = true ∧ b = true ∧ c = true) := by
  cases a <;> cases b <;> cases c <;> simp

/-- Is there a cell so far? -/
def someTo (cs : List Int) : Nat → Bool
  | 0 => false
  | k + 1 => someTo cs k || decide (cs[k]?.getD 0 > 0)

set_option maxHeartbeats 3200000 in
theorem refCheck_any (c : Cfg) (w : World) :
    Calls Try.prog 19 #[.agg #[.int .i64 c.c0, .int .i64 c.c1, .int .i64 c.c2, .int .i64 c.c3, .int .i64 c.c4, .int .i64 c.mks, .int .i64 c.mus, .int .i64 c.dq, .int .i64 c.ch, .int .i64 c.bu, .int .i64 c.ro, .int .i64 c.sw]] w fun r w' => (∃ v, r = .returned (.int .i64 v) ∧ (v = 0 ∨ v = 21) ∧ (v = 0 → Good c)) ∧ Kept w w' := by
  generalize hcs : [c.c0, c.c1, c.c2, c.c3, c.c4] = cs
  have hidx : ∀ (k : Nat), k < 5 → ([.int .i64 c.c0, .int .i64 c.c1, .int .i64 c.c2, .int .i64 c.c3, .int .i64 c.c4, .int .i64 c.mks, .int .i64 c.mus, .int .i64 c.dq, .int .i64 c.ch, .int .i64 c.bu, .int .i64 c.ro, .int .i64 c.sw] : List Value)[k]? = some (.int .i64 (cs[k]?.getD 0)) := by
    intro k hk
    rw [← hcs]
    have : k = 0 ∨ k = 1 ∨ k = 2 ∨ k = 3 ∨ k = 4 := by omega
    rcases this with rfl | rfl | rfl | rfl | rfl <;> rfl
  have hb := Blk.new w 50 [.int .i64 c.c0, .int .i64 c.c1, .int .i64 c.c2, .int .i64 c.c3, .int .i64 c.c4, .int .i64 c.mks, .int .i64 c.mus, .int .i64 c.dq, .int .i64 c.ch, .int .i64 c.bu, .int .i64 c.ro, .int .i64 c.sw]
  have hk0 : Kept w (w.alloc (.cells ([.int .i64 c.c0, .int .i64 c.c1, .int .i64 c.c2, .int .i64 c.c3, .int .i64 c.c4, .int .i64 c.mks, .int .i64 c.mus, .int .i64 c.dq, .int .i64 c.ch, .int .i64 c.bu, .int .i64 c.ro, .int .i64 c.sw] : List Value).toArray 50)) := (Below.refl _ _).alloc (Nat.le_refl _) _
  go_enter Try.func19, Try.ntmps19
  go_wp2_with fail
  generalize w.alloc (.cells ([.int .i64 c.c0, .int .i64 c.c1, .int .i64 c.c2, .int .i64 c.c3, .int .i64 c.c4, .int .i64 c.mks, .int .i64 c.mus, .int .i64 c.dq, .int .i64 c.ch, .int .i64 c.bu, .int .i64 c.ro, .int .i64 c.sw] : List Value).toArray 50) = w1 at *
  have hcell : ∀ (k : Nat), k < 5 → w1.cell? ⟨w.heap.size, k, none⟩ = some (.int .i64 (cs[k]?.getD 0)) := fun k hk => by rw [hb.cell k, hidx k hk]
  have c5 := hb.cell 5
  have c6 := hb.cell 6
  have c7 := hb.cell 7
  have c8 := hb.cell 8
  have c9 := hb.cell 9
  have c10 := hb.cell 10
  have c11 := hb.cell 11
  simp only [List.getElem?_cons_zero, List.getElem?_cons_succ] at c5 c6 c7 c8 c9 c10 c11
  go_loop [3, 4] (fun sv i => ∃ k : Nat, k ≤ 5 ∧ i = .int .i64 k ∧ sv = .bool (someTo cs k) ∧ InTo cs k) (fun _ i => 5 - (intOf i).toNat)
  case atStart => exact ⟨0, by omega, rfl, rfl, fun j hj => by omega⟩
  case round =>
    obtain ⟨k, hk, rfl, rfl, hin⟩ := hrel
    by_cases hlt : (k : Int) < 5
    · have hi := hcell k (by omega)
      have HS : Hid (someTo cs (k + 1) = (someTo cs k || decide (cs[k]?.getD 0 > 0))) := rfl
      clear hcell hidx c5 c6 c7 c8 c9 c10 c11
      cases hI : inB (cs[k]?.getD 0) 0 12
      · have HI : Hid _ := hI
        clear hI
        go_wp2_with (go_at_call 45; refine (refIn_is HI.out _).mono ?_; rintro r w2 ⟨rfl, rfl⟩)
        go_ret
        exact ⟨⟨21, rfl, .inr rfl, fun h => by omega⟩, hk0⟩
      · have HI : Hid _ := hI
        clear hI
        cases hT : someTo cs k
        · by_cases hp : cs[k]?.getD 0 > 0
          · have hR : Hid (someTo cs (k + 1) = true) := by unfold Hid; rw [HS.out, hT, decide_eq_true hp]; rfl
            clear hT
            go_wp2_with (go_at_call 45; refine (refIn_is HI.out _).mono ?_; rintro r w2 ⟨rfl, rfl⟩)
            refine ⟨⟨k + 1, by omega, by go_num, by rw [hR.out]; first | done | (simp; omega), hin.succ HI.out⟩, by simp [intOf]; omega⟩
          · have hR : Hid (someTo cs (k + 1) = false) := by unfold Hid; rw [HS.out, hT, decide_eq_false hp]; rfl
            clear hT
            go_wp2_with (go_at_call 45; refine (refIn_is HI.out _).mono ?_; rintro r w2 ⟨rfl, rfl⟩)
            refine ⟨⟨k + 1, by omega, by go_num, by rw [hR.out]; first | done | (simp; omega), hin.succ HI.out⟩, by simp [intOf]; omega⟩
        · have hR : Hid (someTo cs (k + 1) = true) := by unfold Hid; rw [HS.out, hT]; rfl
          clear hT
          go_wp2_with (go_at_call 45; refine (refIn_is HI.out _).mono ?_; rintro r w2 ⟨rfl, rfl⟩)
          refine ⟨⟨k + 1, by omega, by go_num, by rw [hR.out]; first | done | (simp; omega), hin.succ HI.out⟩, by simp [intOf]; omega⟩
    · obtain rfl : k = 5 := by omega
      rw [← hcs] at hin
      have H5 : Hid _ := hin.five
      have HT : Hid (someTo cs 5 = true → 0 < c.c0 ∨ 0 < c.c1 ∨ 0 < c.c2 ∨ 0 < c.c3 ∨ 0 < c.c4) := by
        unfold Hid
        rw [← hcs]
        simp [someTo]
        omega
      clear hcell hidx hin hlt hcs hk
      generalize someTo cs 5 = sm at *
      rcases four_or (inB c.mks 1 4) (inB c.mus 1 4) (inB c.dq 2 8) (inB c.ch 1 16) with g | ⟨g, g2⟩ | ⟨g, g2, g3⟩ | ⟨g, g2, g3, g4⟩ | ⟨g, g2, g3, g4⟩ <;>
      rcases three_or (inB c.bu 1 4) (inB c.ro 1 8) (inB c.sw 1 16) with q | ⟨q, q2⟩ | ⟨q, q2, q3⟩ | ⟨q, q2, q3⟩ <;> cases sm
      all_goals
        go_wp2_with (go_at_call 45; refine (refIn_is (by assumption) _).mono ?_; rintro r w2 ⟨rfl, rfl⟩)
        go_ret
      all_goals first
        | exact ⟨⟨21, rfl, .inr rfl, fun h => by omega⟩, hk0⟩
        | (rw [inB_iff] at *
           refine ⟨⟨0, rfl, .inl rfl, fun _ => ?_⟩, hk0⟩
           have := H5.out
           have := HT.out (by trivial)
           unfold Good; omega)

end Go.Proofs.Ytfbcadknimfhjaa
