/- Chapter 13's example: walked. -/
import Derived.Test.YtfbcadknimfhjaaGreatPkI
namespace Go.Proofs.YtfbcadknimfhjaaGreat
open Go.RowKit

set_option maxRecDepth 8000 in
set_option maxHeartbeats 1600000 in
theorem awake13_any (w : World) :
    Calls Tryz.prog 4 #[] w fun e w' => e = .returned (.bool true) ∧ Kept w w' := by
  obtain ⟨hl0, hl1, hall⟩ := first_facts cB_good
  go_enter Tryz.func4, Tryz.ntmps4
  go_wp2_with fail
  refine (new_good cB w cB_good).mono ?_; rintro e w1 ⟨bm, rfl, hm1, hk1⟩
  go_wp2_with fail
  refine (first_any w1 hm1 cB_good (Nat.le_refl _)).mono ?_; rintro e w2 ⟨v, rfl, hr2, hk2⟩
  go_wp2_with fail
  refine (new_any w2 hr2 hl0 hl1 hall).mono ?_; rintro e w3 ⟨bs, bl, rfl, hs3, hb3, hl3, hk3⟩
  have hm3 := (hm1.kept hk2 (Nat.le_refl _)).kept hk3 hk2.size
  have hK3 : Kept w w3 := (hk1.trans' hk2).trans' hk3
  have hB : w1.heap.size ≤ w3.heap.size := Nat.le_trans hk2.size hk3.size
  have hBs : w1.heap.size ≤ bs := Nat.le_trans hk2.size hb3
  have hBl : w1.heap.size ≤ bl := Nat.le_trans hk2.size hl3
  have hW : w.heap.size ≤ w1.heap.size := hk1.size
  clear hr2 hk2 hk3 hm1 hb3 hl3 hk1
  go_wp2_with fail
  refine (addNew_any (bs := bs) (bl := bl) 0 5 w3 hm3 hB cB_good (by unfold U; omega) hs3.lt.1 hs3.lt.2).mono ?_; rintro e w4 ⟨a, rfl, ha4, hk4⟩
  have hs4 := hs3.kept hk4
  have hm4 := hm3.kept hk4 hB
  have hK4 : Kept w w4 := hK3.trans' hk4
  have z4 : w3.heap.size ≤ w4.heap.size := hk4.size
  clear hs3 hm3 hK3 hk4
  go_wp2_with fail
  refine (whole13_any w4 cB_good ha4 hs4 hm4 (by omega) (NewB.ge hB) hBs hBl).mono ?_; rintro e w5 ⟨K, rfl, k1, _, k3, k4, _, ⟨n5, hs5⟩, hc5⟩
  obtain rfl : K = 4 := am_count (x := b0B) bw0 (by omega) k1 k3 k4
  replace hs5 : StoreAt w5 bs bl (amRun cB 0 19 b0B).1 n5 := hs5
  have hb5 := hc5.ownBelow (B := w1.heap.size) (by omega) (NewB.ge hB) hBs hBl
  have hm5 := hm4.below hb5 (Nat.le_refl _)
  have hK5 : Kept w w5 := hK4.trans (hb5.mono hW)
  have z5 : w4.heap.size ≤ w5.heap.size := hc5.size
  clear hs4 hm4 hK4 hc5 hb5 ha4 k1 k3 k4
  go_wp2_with fail
  refine (addNew_any (bs := bs) (bl := bl) 0 6 w5 hm5 (by omega) cB_good (by unfold U; omega) hs5.lt.1 hs5.lt.2).mono ?_; rintro e w6 ⟨a6, rfl, ha6, hk6⟩
  have hs6 := hs5.kept hk6
  have hm6 := hm5.kept hk6 (by omega)
  have hK6 : Kept w w6 := hK5.trans' hk6
  have z6 : w5.heap.size ≤ w6.heap.size := hk6.size
  clear hs5 hm5 hK5 hk6
  go_wp2_with fail
  refine (whole13_any w6 cB_good ha6 hs6 hm6 (by omega) (NewB.ge (by omega)) hBs hBl).mono ?_; rintro e w7 ⟨K, rfl, k1, _, k3, k4, _, ⟨n7, hs7⟩, hc7⟩
  obtain rfl : K = 4 := am_count (x := b1B) bw1 (by omega) k1 k3 k4
  replace hs7 : StoreAt w7 bs bl (amRun cB 0 19 b1B).1 n7 := hs7
  have hb7 := hc7.ownBelow (B := w1.heap.size) (by omega) (NewB.ge (by omega)) hBs hBl
  have hm7 := hm6.below hb7 (Nat.le_refl _)
  have hK7 : Kept w w7 := hK6.trans (hb7.mono hW)
  have z7 : w6.heap.size ≤ w7.heap.size := hc7.size
  clear hs6 hm6 hK6 hc7 hb7 ha6 k1 k3 k4
  go_wp2_with fail
  refine (addNew_any (bs := bs) (bl := bl) 0 7 w7 hm7 (by omega) cB_good (by unfold U; omega) hs7.lt.1 hs7.lt.2).mono ?_; rintro e w8 ⟨a8, rfl, ha8, hk8⟩
  have hs8 := hs7.kept hk8
  have hm8 := hm7.kept hk8 (by omega)
  have hK8 : Kept w w8 := hK7.trans' hk8
  have z8 : w7.heap.size ≤ w8.heap.size := hk8.size
  clear hs7 hm7 hK7 hk8
  go_wp2_with fail
  refine (whole13_any w8 cB_good ha8 hs8 hm8 (by omega) (NewB.ge (by omega)) hBs hBl).mono ?_; rintro e w9 ⟨K, rfl, k1, _, k3, k4, ha9, ⟨n9, hs9⟩, hc9⟩
  obtain rfl : K = 10 := am_count (x := b2B) bw2 (by omega) k1 k3 k4
  replace hs9 : StoreAt w9 bs bl (amRun cB 0 19 b2B).1 n9 := hs9
  replace ha9 : AmAt w9 a8 bm bs bl cB 0 (amRun cB 0 19 b2B).2 _ := ha9
  have hb9 := hc9.ownBelow (B := w1.heap.size) (by omega) (NewB.ge (by omega)) hBs hBl
  have hm9 := hm8.below hb9 (Nat.le_refl _)
  have hK9 : Kept w w9 := hK8.trans (hb9.mono hW)
  have z9 : w8.heap.size ≤ w9.heap.size := hc9.size
  clear hs8 hm8 hK8 hc9 hb9 ha8 k1 k3 k4
  go_wp2_with fail
  refine (mAll_any w9 hs9).mono ?_; rintro e w10 ⟨rfl, hb10, hk10⟩
  have hr10 : Row w10 (.slice (some ⟨w9.heap.size, 0, none⟩) (amRun cB 0 19 b2B).1.length (amRun cB 0 19 b2B).1.length) ((amRun cB 0 19 b2B).1.map (Value.int .u64)) := by
    have := hb10.row (by have := hs9.le; simp; unfold maxLen; omega)
    simpa using this
  have ha10 := ha9.chg (Chg.ofBelow (S := fun _ => False) hk10) (fun _ _ => id)
  have hm10 := hm9.kept hk10 (by omega)
  have z10 : w9.heap.size ≤ w10.heap.size := hk10.size
  have hK10 : Kept w w10 := hK9.trans' hk10
  go_wp2_with fail
  refine (held_any w10 cB_good hm10 (by omega) hr10 hs9.pos hs9.le hs9.all).mono ?_; rintro e w11 ⟨v11, rfl, own11, hk11⟩
  rw [bw3.1] at own11
  obtain ⟨a11, c11, rfl⟩ := own_slice own11
  have ha11 := ha10.chg (Chg.ofBelow (S := fun _ => False) hk11) (fun _ _ => id)
  have hK11 : Kept w w11 := hK10.trans' hk11
  obtain ⟨g11, rfl, hc11⟩ := own_cell own11 (k := 0) (by simp)
  simp only [List.map_cons, List.map_nil, List.getElem?_cons_zero] at hc11
  have P := aspilled_any w11 ha11
  rw [bw3.2] at P
  clear hb10 hr10 ha9 ha10 hm9 hm10 hk10 hk11 hK9 hK10 hs9 ha11 own11
  go_wp2_with fail
  refine P.mono ?_; rintro e wx ⟨rfl, rfl⟩
  go_wp2_with fail
  go_ret
  exact ⟨rfl, hK11⟩

end Go.Proofs.YtfbcadknimfhjaaGreat
