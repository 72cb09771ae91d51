/- A law's test of a configuration: the reference's Check: walked. A law's test of a configuration (chapter 11's): walked. A law's test of a configuration (chapter 13's): walked. -/
import Derived.Test.YtfbcadknimfhjaaGreatPkA
namespace Go.Proofs.YtfbcadknimfhjaaGreat
open Go.RowKit

theorem refIn_is {n lo hi : Int} {b : Bool} (h : inB n lo hi = b) (w : World) :
    Calls Tryz.prog 61 #[.int .i64 n, .int .i64 lo, .int .i64 hi] w fun e w' => e = .returned (.bool b) ∧ w = w' := by
  subst h
  go_enter Tryz.func61, Tryz.ntmps61
  go_wp2
  all_goals go_ret
  all_goals exact ⟨ret_bool (by unfold inB; simp; omega), rfl⟩

theorem four_or (a b c d : Bool) : (a = false) ∨ (a = true ∧ b = false) ∨ (a = true ∧ b = true ∧ c = false) ∨ (a = true ∧ b = true ∧ c = true ∧ d = false) ∨ (a = true ∧ b = true ∧ c = true ∧ d = true) := by
  cases a <;> cases b <;> cases c <;> cases d <;> simp
theorem three_or (a b c : Bool) : (a = false) ∨ (a = true ∧ b = false) ∨ (a = true ∧ b = true ∧ c = false) ∨ (a = true ∧ b = true ∧ c = true) := by
  cases a <;> cases b <;> cases c <;> simp

/-- Is there a cell so far? -/
def someTo (cs : List Int) : Nat → Bool
  | 0 => false
  | k + 1 => someTo cs k || decide (cs[k]?.getD 0 > 0)

set_option maxHeartbeats 3200000 in
theorem refCheck_any (c : Cfg) (w : World) :
    Calls Tryz.prog 26 #[.agg #[.int .i64 c.c0, .int .i64 c.c1, .int .i64 c.c2, .int .i64 c.c3, .int .i64 c.c4, .int .i64 c.mks, .int .i64 c.mus, .int .i64 c.dq, .int .i64 c.ch, .int .i64 c.bu, .int .i64 c.ro, .int .i64 c.sw]] w fun r w' => (∃ v, r = .returned (.int .i64 v) ∧ (v = 0 ∨ v = 21) ∧ (v = 0 → Good c)) ∧ Kept w w' := by
  generalize hcs : [c.c0, c.c1, c.c2, c.c3, c.c4] = cs
  have hidx : ∀ (k : Nat), k < 5 → ([.int .i64 c.c0, .int .i64 c.c1, .int .i64 c.c2, .int .i64 c.c3, .int .i64 c.c4, .int .i64 c.mks, .int .i64 c.mus, .int .i64 c.dq, .int .i64 c.ch, .int .i64 c.bu, .int .i64 c.ro, .int .i64 c.sw] : List Value)[k]? = some (.int .i64 (cs[k]?.getD 0)) := by
    intro k hk
    rw [← hcs]
    have : k = 0 ∨ k = 1 ∨ k = 2 ∨ k = 3 ∨ k = 4 := by omega
    rcases this with rfl | rfl | rfl | rfl | rfl <;> rfl
  have hb := Blk.new w 37 [.int .i64 c.c0, .int .i64 c.c1, .int .i64 c.c2, .int .i64 c.c3, .int .i64 c.c4, .int .i64 c.mks, .int .i64 c.mus, .int .i64 c.dq, .int .i64 c.ch, .int .i64 c.bu, .int .i64 c.ro, .int .i64 c.sw]
  have hk0 : Kept w (w.alloc (.cells ([.int .i64 c.c0, .int .i64 c.c1, .int .i64 c.c2, .int .i64 c.c3, .int .i64 c.c4, .int .i64 c.mks, .int .i64 c.mus, .int .i64 c.dq, .int .i64 c.ch, .int .i64 c.bu, .int .i64 c.ro, .int .i64 c.sw] : List Value).toArray 37)) := (Below.refl _ _).alloc (Nat.le_refl _) _
  go_enter Tryz.func26, Tryz.ntmps26
  go_wp2_with fail
  generalize w.alloc (.cells ([.int .i64 c.c0, .int .i64 c.c1, .int .i64 c.c2, .int .i64 c.c3, .int .i64 c.c4, .int .i64 c.mks, .int .i64 c.mus, .int .i64 c.dq, .int .i64 c.ch, .int .i64 c.bu, .int .i64 c.ro, .int .i64 c.sw] : List Value).toArray 37) = w1 at *
  have hcell : ∀ (k : Nat), k < 5 → w1.cell? ⟨w.heap.size, k, none⟩ = some (.int .i64 (cs[k]?.getD 0)) := fun k hk => by rw [hb.cell k, hidx k hk]
  have c5 := hb.cell 5
  have c6 := hb.cell 6
  have c7 := hb.cell 7
  have c8 := hb.cell 8
  have c9 := hb.cell 9
  have c10 := hb.cell 10
  have c11 := hb.cell 11
  simp only [List.getElem?_cons_zero, List.getElem?_cons_succ] at c5 c6 c7 c8 c9 c10 c11
  go_loop [3, 4] (fun sv i => ∃ k : Nat, k ≤ 5 ∧ i = .int .i64 k ∧ sv = .bool (someTo cs k) ∧ InTo cs k) (fun _ i => 5 - (intOf i).toNat)
  case atStart => exact ⟨0, by omega, rfl, rfl, fun j hj => by omega⟩
  case round =>
    obtain ⟨k, hk, rfl, rfl, hin⟩ := hrel
    by_cases hlt : (k : Int) < 5
    · have hi := hcell k (by omega)
      have HS : Hid (someTo cs (k + 1) = (someTo cs k || decide (cs[k]?.getD 0 > 0))) := rfl
      clear hcell hidx c5 c6 c7 c8 c9 c10 c11
      cases hI : inB (cs[k]?.getD 0) 0 12
      · have HI : Hid _ := hI
        clear hI
        go_wp2_with (go_at_call 61; refine (refIn_is HI.out _).mono ?_; rintro r w2 ⟨rfl, rfl⟩)
        go_ret
        exact ⟨⟨21, rfl, .inr rfl, fun h => by omega⟩, hk0⟩
      · have HI : Hid _ := hI
        clear hI
        cases hT : someTo cs k
        · by_cases hp : cs[k]?.getD 0 > 0
          · have hR : Hid (someTo cs (k + 1) = true) := by unfold Hid; rw [HS.out, hT, decide_eq_true hp]; rfl
            clear hT
            go_wp2_with (go_at_call 61; refine (refIn_is HI.out _).mono ?_; rintro r w2 ⟨rfl, rfl⟩)
            refine ⟨⟨k + 1, by omega, by go_num, by rw [hR.out]; first | done | (simp; omega), hin.succ HI.out⟩, by simp [intOf]; omega⟩
          · have hR : Hid (someTo cs (k + 1) = false) := by unfold Hid; rw [HS.out, hT, decide_eq_false hp]; rfl
            clear hT
            go_wp2_with (go_at_call 61; refine (refIn_is HI.out _).mono ?_; rintro r w2 ⟨rfl, rfl⟩)
            refine ⟨⟨k + 1, by omega, by go_num, by rw [hR.out]; first | done | (simp; omega), hin.succ HI.out⟩, by simp [intOf]; omega⟩
        · have hR : Hid (someTo cs (k + 1) = true) := by unfold Hid; rw [HS.out, hT]; rfl
          clear hT
          go_wp2_with (go_at_call 61; refine (refIn_is HI.out _).mono ?_; rintro r w2 ⟨rfl, rfl⟩)
          refine ⟨⟨k + 1, by omega, by go_num, by rw [hR.out]; first | done | (simp; omega), hin.succ HI.out⟩, by simp [intOf]; omega⟩
    · obtain rfl : k = 5 := by omega
      rw [← hcs] at hin
      have H5 : Hid _ := hin.five
      have HT : Hid (someTo cs 5 = true → 0 < c.c0 ∨ 0 < c.c1 ∨ 0 < c.c2 ∨ 0 < c.c3 ∨ 0 < c.c4) := by
        unfold Hid
        rw [← hcs]
        simp [someTo]
        omega
      clear hcell hidx hin hlt hcs hk
      generalize someTo cs 5 = sm at *
      rcases four_or (inB c.mks 1 4) (inB c.mus 1 4) (inB c.dq 2 8) (inB c.ch 1 16) with g | ⟨g, g2⟩ | ⟨g, g2, g3⟩ | ⟨g, g2, g3, g4⟩ | ⟨g, g2, g3, g4⟩ <;>
      rcases three_or (inB c.bu 1 4) (inB c.ro 1 8) (inB c.sw 1 16) with q | ⟨q, q2⟩ | ⟨q, q2, q3⟩ | ⟨q, q2, q3⟩ <;> cases sm
      all_goals
        go_wp2_with (go_at_call 61; refine (refIn_is (by assumption) _).mono ?_; rintro r w2 ⟨rfl, rfl⟩)
        go_ret
      all_goals first
        | exact ⟨⟨21, rfl, .inr rfl, fun h => by omega⟩, hk0⟩
        | (rw [inB_iff] at *
           refine ⟨⟨0, rfl, .inl rfl, fun _ => ?_⟩, hk0⟩
           have := H5.out
           have := HT.out (by trivial)
           unfold Good; omega)

end Go.Proofs.YtfbcadknimfhjaaGreat

namespace Go.Proofs.YtfbcadknimfhjaaGreat
open Go.RowKit

/-- A truth is told; if it is true, P. -/
def RetB (P : Prop) (e : Ending) : Prop := ∃ v, e = .returned (.bool v) ∧ (v = true → P)

/-- The sum so far. -/
def sumTo (cs : List Int) : Nat → Int
  | 0 => 0
  | k + 1 => sumTo cs k + cs[k]?.getD 0

/-- Numbers from 0 to 6, so far. -/
def SixTo (cs : List Int) (k : Nat) : Prop := ∀ j, j < k → 0 ≤ cs[j]?.getD 0 ∧ cs[j]?.getD 0 ≤ 6

theorem SixTo.sum {cs : List Int} {k : Nat} (h : SixTo cs k) : 0 ≤ sumTo cs k ∧ sumTo cs k ≤ 6 * k := by
  induction k with
  | zero => simp [sumTo]
  | succ k ih =>
    have := ih (fun j hj => h j (by omega))
    have := h k (by omega)
    simp only [sumTo]; omega

/-- A configuration with few cells. -/
def Small (c : Cfg) : Prop := c.c0 ≤ 6 ∧ c.c1 ≤ 6 ∧ c.c2 ≤ 6 ∧ c.c3 ≤ 6 ∧ c.c4 ≤ 6 ∧ c.c0 + c.c1 + c.c2 + c.c3 + c.c4 ≤ 12

end Go.Proofs.YtfbcadknimfhjaaGreat

namespace Go.Proofs.YtfbcadknimfhjaaGreat
open Go.RowKit

set_option maxRecDepth 8000 in
theorem model13_any (c : Cfg) (w : World) :
    Calls Tryz.prog 8 #[.agg #[.int .i64 c.c0, .int .i64 c.c1, .int .i64 c.c2, .int .i64 c.c3, .int .i64 c.c4, .int .i64 c.mks, .int .i64 c.mus, .int .i64 c.dq, .int .i64 c.ch, .int .i64 c.bu, .int .i64 c.ro, .int .i64 c.sw]] w fun r w' => r = .returned (.agg #[.int .i64 c.c0, .int .i64 c.c1, .int .i64 c.c2, .int .i64 c.c3, .int .i64 c.c4, .int .i64 c.mks, .int .i64 c.mus, .int .i64 c.dq, .int .i64 c.ch, .int .i64 c.bu, .int .i64 c.ro, .int .i64 c.sw]) ∧ Kept w w' := by
  have hb := Blk.new w 24 [.int .i64 c.c0, .int .i64 c.c1, .int .i64 c.c2, .int .i64 c.c3, .int .i64 c.c4, .int .i64 c.mks, .int .i64 c.mus, .int .i64 c.dq, .int .i64 c.ch, .int .i64 c.bu, .int .i64 c.ro, .int .i64 c.sw]
  have hk0 : Kept w (w.alloc (.cells ([.int .i64 c.c0, .int .i64 c.c1, .int .i64 c.c2, .int .i64 c.c3, .int .i64 c.c4, .int .i64 c.mks, .int .i64 c.mus, .int .i64 c.dq, .int .i64 c.ch, .int .i64 c.bu, .int .i64 c.ro, .int .i64 c.sw] : List Value).toArray 24)) := (Below.refl _ _).alloc (Nat.le_refl _) _
  go_enter Tryz.func8, Tryz.ntmps8
  go_wp2_with fail
  exact bodyPost_ret (v := .agg #[.int .i64 c.c0, .int .i64 c.c1, .int .i64 c.c2, .int .i64 c.c3, .int .i64 c.c4, .int .i64 c.mks, .int .i64 c.mus, .int .i64 c.dq, .int .i64 c.ch, .int .i64 c.bu, .int .i64 c.ro, .int .i64 c.sw]) (by simp [results, Tryz.results8, go_sem]) rfl ⟨rfl, ((Below.refl _ _).alloc (Nat.le_refl _) _).alloc (by simp) _⟩

set_option maxRecDepth 8000 in
set_option maxHeartbeats 1600000 in
theorem small13_any (c : Cfg) (w : World) :
    Calls Tryz.prog 5 #[.agg #[.int .i64 c.c0, .int .i64 c.c1, .int .i64 c.c2, .int .i64 c.c3, .int .i64 c.c4, .int .i64 c.mks, .int .i64 c.mus, .int .i64 c.dq, .int .i64 c.ch, .int .i64 c.bu, .int .i64 c.ro, .int .i64 c.sw]] w fun r w' => RetB (Good c ∧ Small c) r ∧ Kept w w' := by
  generalize hcs : [c.c0, c.c1, c.c2, c.c3, c.c4] = cs
  have hidx : ∀ (k : Nat), k < 5 → ([.int .i64 c.c0, .int .i64 c.c1, .int .i64 c.c2, .int .i64 c.c3, .int .i64 c.c4, .int .i64 c.mks, .int .i64 c.mus, .int .i64 c.dq, .int .i64 c.ch, .int .i64 c.bu, .int .i64 c.ro, .int .i64 c.sw] : List Value)[k]? = some (.int .i64 (cs[k]?.getD 0)) := by
    intro k hk
    rw [← hcs]
    have : k = 0 ∨ k = 1 ∨ k = 2 ∨ k = 3 ∨ k = 4 := by omega
    rcases this with rfl | rfl | rfl | rfl | rfl <;> rfl
  have hb := Blk.new w 24 [.int .i64 c.c0, .int .i64 c.c1, .int .i64 c.c2, .int .i64 c.c3, .int .i64 c.c4, .int .i64 c.mks, .int .i64 c.mus, .int .i64 c.dq, .int .i64 c.ch, .int .i64 c.bu, .int .i64 c.ro, .int .i64 c.sw]
  have hk0 : Kept w (w.alloc (.cells ([.int .i64 c.c0, .int .i64 c.c1, .int .i64 c.c2, .int .i64 c.c3, .int .i64 c.c4, .int .i64 c.mks, .int .i64 c.mus, .int .i64 c.dq, .int .i64 c.ch, .int .i64 c.bu, .int .i64 c.ro, .int .i64 c.sw] : List Value).toArray 24)) := (Below.refl _ _).alloc (Nat.le_refl _) _
  go_enter Tryz.func5, Tryz.ntmps5
  go_wp2_with fail
  have hcell : ∀ (k : Nat), k < 5 → (w.alloc (.cells ([.int .i64 c.c0, .int .i64 c.c1, .int .i64 c.c2, .int .i64 c.c3, .int .i64 c.c4, .int .i64 c.mks, .int .i64 c.mus, .int .i64 c.dq, .int .i64 c.ch, .int .i64 c.bu, .int .i64 c.ro, .int .i64 c.sw] : List Value).toArray 24)).cell? ⟨w.heap.size, k, none⟩ = some (.int .i64 (cs[k]?.getD 0)) := fun k hk => by rw [hb.cell k, hidx k hk]
  go_loop [3, 4] (fun sv i => ∃ k : Nat, k ≤ 5 ∧ i = .int .i64 k ∧ sv = .int .i64 (sumTo cs k) ∧ SixTo cs k) (fun _ i => 5 - (intOf i).toNat)
  case atStart => exact ⟨0, by omega, rfl, rfl, fun j hj => by omega⟩
  case round =>
    obtain ⟨k, hk, rfl, rfl, hin⟩ := hrel
    by_cases hlt : (k : Int) < 5
    · have hi := hcell k (by omega)
      have HS : Hid (sumTo cs (k + 1) = sumTo cs k + cs[k]?.getD 0) := rfl
      have hsb := hin.sum
      obtain ⟨hsb0, hsb1⟩ := hsb
      clear hcell hidx
      by_cases h0 : cs[k]?.getD 0 < 0
      · go_wp2_with fail
        go_ret
        exact ⟨⟨false, rfl, fun h => by cases h⟩, hk0⟩
      · by_cases h6 : cs[k]?.getD 0 > 6
        · go_wp2_with fail
          go_ret
          exact ⟨⟨false, rfl, fun h => by cases h⟩, hk0⟩
        · have hx0 : 0 ≤ cs[k]?.getD 0 := by omega
          have hx6 : cs[k]?.getD 0 ≤ 6 := by omega
          have HI : Hid (SixTo cs (k + 1)) := by
            intro j hj
            by_cases e : j = k
            · subst e; exact ⟨hx0, hx6⟩
            · exact hin j (by omega)
          clear h0 h6
          go_wp2_with fail
          refine ⟨⟨k + 1, by omega, by go_num, by rw [HS.out], HI.out⟩, by simp [intOf]; omega⟩
    · obtain rfl : k = 5 := by omega
      rw [← hcs] at hin
      have HI : Hid (c.c0 ≤ 6 ∧ c.c1 ≤ 6 ∧ c.c2 ≤ 6 ∧ c.c3 ≤ 6 ∧ c.c4 ≤ 6) := ⟨(hin 0 (by omega)).2, (hin 1 (by omega)).2, (hin 2 (by omega)).2, (hin 3 (by omega)).2, (hin 4 (by omega)).2⟩
      have HE : Hid (sumTo cs 5 = c.c0 + c.c1 + c.c2 + c.c3 + c.c4) := by unfold Hid; rw [← hcs]; simp [sumTo]
      clear hcell hidx hin hlt hcs hk
      generalize sumTo cs 5 = sm at *
      by_cases h12 : sm ≤ 12
      · go_wp2_with fail
        refine (model13_any c _).mono ?_; rintro e w2 ⟨rfl, hk2⟩
        go_wp2_with fail
        refine (refCheck_any c _).mono ?_; rintro e w3 ⟨⟨v, rfl, hv, hv0⟩, hk3⟩
        have HV : Hid (v = 0 → Good c) := hv0
        clear hv0
        rcases hv with rfl | rfl
        · go_wp2_with fail
          go_ret
          exact ⟨⟨true, rfl, fun _ => ⟨HV.out (by trivial), by have := HI.out; have := HE.out; unfold Small; omega⟩⟩, (hk0.trans' hk2).trans' hk3⟩
        · go_wp2_with fail
          go_ret
          exact ⟨⟨false, rfl, fun h => by cases h⟩, (hk0.trans' hk2).trans' hk3⟩
      · go_wp2_with fail
        go_ret
        exact ⟨⟨false, rfl, fun h => by cases h⟩, hk0⟩

end Go.Proofs.YtfbcadknimfhjaaGreat
