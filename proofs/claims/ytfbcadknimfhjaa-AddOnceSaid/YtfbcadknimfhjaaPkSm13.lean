/- A law's test of a configuration (chapter 13's): walked. -/
import Derived.Test.YtfbcadknimfhjaaPkSm11
namespace Go.Proofs.Ytfbcadknimfhjaa
open Go.RowKit

set_option maxRecDepth 8000 in
theorem model13_any (c : Cfg) (w : World) :
    Calls Try.prog 20 #[.agg #[.int .i64 c.c0, .int .i64 c.c1, .int .i64 c.c2, .int .i64 c.c3, .int .i64 c.c4, .int .i64 c.mks, .int .i64 c.mus, .int .i64 c.dq, .int .i64 c.ch, .int .i64 c.bu, .int .i64 c.ro, .int .i64 c.sw]] w fun r w' => r = .returned (.agg #[.int .i64 c.c0, .int .i64 c.c1, .int .i64 c.c2, .int .i64 c.c3, .int .i64 c.c4, .int .i64 c.mks, .int .i64 c.mus, .int .i64 c.dq, .int .i64 c.ch, .int .i64 c.bu, .int .i64 c.ro, .int .i64 c.sw]) ∧ Kept w w' := by
  have hb := Blk.new w 24 [.int .i64 c.c0, .int .i64 c.c1, .int .i64 c.c2, .int .i64 c.c3, .int .i64 c.c4, .int .i64 c.mks, .int .i64 c.mus, .int .i64 c.dq, .int .i64 c.ch, .int .i64 c.bu, .int .i64 c.ro, .int .i64 c.sw]
  have hk0 : Kept w (w.alloc (.cells ([.int .i64 c.c0, .int .i64 c.c1, .int .i64 c.c2, .int .i64 c.c3, .int .i64 c.c4, .int .i64 c.mks, .int .i64 c.mus, .int .i64 c.dq, .int .i64 c.ch, .int .i64 c.bu, .int .i64 c.ro, .int .i64 c.sw] : List Value).toArray 24)) := (Below.refl _ _).alloc (Nat.le_refl _) _
  go_enter Try.func20, Try.ntmps20
  go_wp2_with fail
  exact bodyPost_ret (v := .agg #[.int .i64 c.c0, .int .i64 c.c1, .int .i64 c.c2, .int .i64 c.c3, .int .i64 c.c4, .int .i64 c.mks, .int .i64 c.mus, .int .i64 c.dq, .int .i64 c.ch, .int .i64 c.bu, .int .i64 c.ro, .int .i64 c.sw]) (by simp [results, Try.results20, go_sem]) rfl ⟨rfl, ((Below.refl _ _).alloc (Nat.le_refl _) _).alloc (by simp) _⟩

set_option maxRecDepth 8000 in
set_option maxHeartbeats 1600000 in
theorem small13_any (c : Cfg) (w : World) :
    Calls Try.prog 5 #[.agg #[.int .i64 c.c0, .int .i64 c.c1, .int .i64 c.c2, .int .i64 c.c3, .int .i64 c.c4, .int .i64 c.mks, .int .i64 c.mus, .int .i64 c.dq, .int .i64 c.ch, .int .i64 c.bu, .int .i64 c.ro, .int .i64 c.sw]] w fun r w' => RetB (Good c ∧ Small c) r ∧ Kept w w' := by
  generalize hcs : [c.c0, c.c1, c.c2, c.c3, c.c4] = cs
  have hidx : ∀ (k : Nat), k < 5 → ([.int .i64 c.c0, .int .i64 c.c1, .int .i64 c.c2, .int .i64 c.c3, .int .i64 c.c4, .int .i64 c.mks, .int .i64 c.mus, .int .i64 c.dq, .int .i64 c.ch, .int .i64 c.bu, .int .i64 c.ro, .int .i64 c.sw] : List Value)[k]? = some (.int .i64 (cs[k]?.getD 0)) := by
    intro k hk
    rw [← hcs]
    have : k = 0 ∨ k = 1 ∨ k = 2 ∨ k = 3 ∨ k = 4 := by omega
    rcases this with rfl | rfl | rfl | rfl | rfl <;> rfl
  have hb := Blk.new w 24 [.int .i64 c.c0, .int .i64 c.c1, .int .i64 c.c2, .int .i64 c.c3, .int .i64 c.c4, .int .i64 c.mks, .int .i64 c.mus, .int .i64 c.dq, .int .i64 c.ch, .int .i64 c.bu, .int .i64 c.ro, .int .i64 c.sw]
  have hk0 : Kept w (w.alloc (.cells ([.int .i64 c.c0, .int .i64 c.c1, .int .i64 c.c2, .int .i64 c.c3, .int .i64 c.c4, .int .i64 c.mks, .int .i64 c.mus, .int .i64 c.dq, .int .i64 c.ch, .int .i64 c.bu, .int .i64 c.ro, .int .i64 c.sw] : List Value).toArray 24)) := (Below.refl _ _).alloc (Nat.le_refl _) _
  go_enter Try.func5, Try.ntmps5
  go_wp2_with fail
  have hcell : ∀ (k : Nat), k < 5 → (w.alloc (.cells ([.int .i64 c.c0, .int .i64 c.c1, .int .i64 c.c2, .int .i64 c.c3, .int .i64 c.c4, .int .i64 c.mks, .int .i64 c.mus, .int .i64 c.dq, .int .i64 c.ch, .int .i64 c.bu, .int .i64 c.ro, .int .i64 c.sw] : List Value).toArray 24)).cell? ⟨w.heap.size, k, none⟩ = some (.int .i64 (cs[k]?.getD 0)) := fun k hk => by rw [hb.cell k, hidx k hk]
  go_loop [3, 4] (fun sv i => ∃ k : Nat, k ≤ 5 ∧ i = .int .i64 k ∧ sv = .int .i64 (sumTo cs k) ∧ SixTo cs k) (fun _ i => 5 - (intOf i).toNat)
  case atStart => exact ⟨0, by omega, rfl, rfl, fun j hj => by omega⟩
  case round =>
    obtain ⟨k, hk, rfl, rfl, hin⟩ := hrel
    by_cases hlt : (k : Int) < 5
    · have hi := hcell k (by omega)
      have HS : Hid (sumTo cs (k + 1) = sumTo cs k + cs[k]?.getD 0) := rfl
      have hsb := hin.sum
      obtain ⟨hsb0, hsb1⟩ := hsb
      clear hcell hidx
      by_cases h0 : cs[k]?.getD 0 < 0
      · go_wp2_with fail
        go_ret
        exact ⟨⟨false, rfl, fun h => by cases h⟩, hk0⟩
      · by_cases h6 : cs[k]?.getD 0 > 6
        · go_wp2_with fail
          go_ret
          exact ⟨⟨false, rfl, fun h => by cases h⟩, hk0⟩
        · have hx0 : 0 ≤ cs[k]?.getD 0 := by omega
          have hx6 : cs[k]?.getD 0 ≤ 6 := by omega
          have HI : Hid (SixTo cs (k + 1)) := by
            intro j hj
            by_cases e : j = k
            · subst e; exact ⟨hx0, hx6⟩
            · exact hin j (by omega)
          clear h0 h6
          go_wp2_with fail
          refine ⟨⟨k + 1, by omega, by go_num, by rw [HS.out], HI.out⟩, by simp [intOf]; omega⟩
    · obtain rfl : k = 5 := by omega
      rw [← hcs] at hin
      have HI : Hid (c.c0 ≤ 6 ∧ c.c1 ≤ 6 ∧ c.c2 ≤ 6 ∧ c.c3 ≤ 6 ∧ c.c4 ≤ 6) := ⟨(hin 0 (by omega)).2, (hin 1 (by omega)).2, (hin 2 (by omega)).2, (hin 3 (by omega)).2, (hin 4 (by omega)).2⟩
      have HE : Hid (sumTo cs 5 = c.c0 + c.c1 + c.c2 + c.c3 + c.c4) := by unfold Hid; rw [← hcs]; simp [sumTo]
      clear hcell hidx hin hlt hcs hk
      generalize sumTo cs 5 = sm at *
      by_cases h12 : sm ≤ 12
      · go_wp2_with fail
        refine (model13_any c _).mono ?_; rintro e w2 ⟨rfl, hk2⟩
        go_wp2_with fail
        refine (refCheck_any c _).mono ?_; rintro e w3 ⟨⟨v, rfl, hv, hv0⟩, hk3⟩
        have HV : Hid (v = 0 → Good c) := hv0
        clear hv0
        rcases hv with rfl | rfl
        · go_wp2_with fail
          go_ret
          exact ⟨⟨true, rfl, fun _ => ⟨HV.out (by trivial), by have := HI.out; have := HE.out; unfold Small; omega⟩⟩, (hk0.trans' hk2).trans' hk3⟩
        · go_wp2_with fail
          go_ret
          exact ⟨⟨false, rfl, fun h => by cases h⟩, (hk0.trans' hk2).trans' hk3⟩
      · go_wp2_with fail
        go_ret
        exact ⟨⟨false, rfl, fun h => by cases h⟩, hk0⟩

end Go.Proofs.Ytfbcadknimfhjaa
