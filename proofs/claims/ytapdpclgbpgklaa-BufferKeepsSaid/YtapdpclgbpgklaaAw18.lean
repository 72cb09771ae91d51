/- Chapter 18's example: walked. -/
import Derived.Test.YtapdpclgbpgklaaAwake18
import Derived.Test.YtapdpclgbpgklaaBuf5
import Derived.Test.YtapdpclgbpgklaaWords
namespace Go.Proofs.Ytapdpclgbpgklaa
open Go.RowKit

theorem BuAt.kept {w w' : World} {x bb bm bs bl base : Nat} {ts : List Int} {s : BS} {O : Nat → Prop} (h : BuAt w x bb bm bs bl base ts s O) (k : Kept w w') : BuAt w' x bb bm bs bl base ts s O := h.chg (Chg.ofBelow (S := fun _ => False) k) (fun _ _ => id)
theorem BfAt.kept {w w' : World} {bb bm bs bl base : Nat} {ts : List Int} {O : Nat → Prop} (h : BfAt w bb bm bs bl base ts O) (k : Kept w w') : BfAt w' bb bm bs bl base ts O := h.chg (Chg.ofBelow (S := fun _ => False) k) (fun _ _ => id)

theorem Grow.ge {O : Nat → Prop} {w w' : World} {B : Nat} (h : ∀ k, O k → B ≤ k) (hB : B ≤ w.heap.size) : ∀ k, Grow O w w' k → B ≤ k := by
  rintro k (e | e)
  · exact h k e
  · omega

set_option maxRecDepth 8000 in
set_option maxHeartbeats 3200000 in
theorem awake18_any (w : World) :
    Calls Try.prog 7 #[] w fun e w' => e = .returned (.bool true) ∧ Kept w w' := by
  obtain ⟨hl0, hl1, hall⟩ := first_facts cD_good
  go_enter Try.func7, Try.ntmps7
  go_wp2_with fail
  refine (new_good cD w cD_good).mono ?_; rintro e w1 ⟨bm, rfl, hm1, hk1⟩
  go_wp2_with fail
  refine (first_any w1 hm1 cD_good (Nat.le_refl _)).mono ?_; rintro e w2 ⟨v, rfl, hr2, hk2⟩
  go_wp2_with fail
  refine (new_any w2 hr2 hl0 hl1 hall).mono ?_; rintro e w3 ⟨bs, bl, rfl, hs3, hb3, hl3, hk3⟩
  have hm3 := (hm1.kept hk2 (Nat.le_refl _)).kept hk3 hk2.size
  have hK3 : Kept w w3 := (hk1.trans' hk2).trans' hk3
  have hB : w1.heap.size ≤ w3.heap.size := Nat.le_trans hk2.size hk3.size
  have hBs : w1.heap.size ≤ bs := Nat.le_trans hk2.size hb3
  have hBl : w1.heap.size ≤ bl := Nat.le_trans hk2.size hl3
  have hW : w.heap.size ≤ w1.heap.size := hk1.size
  clear hr2 hk2 hk3 hm1 hb3 hl3 hk1
  go_wp2_with fail
  refine (bufNew_any (bm := bm) w3 hs3.lt.1 hs3.lt.2).mono ?_; rintro e w4 ⟨bb, rfl, hbf4, hbb, hk4⟩
  have hs4 := hs3.kept hk4
  have hm4 := hm3.kept hk4 hB
  have hK4 : Kept w w4 := hK3.trans' hk4
  have z4 : w3.heap.size ≤ w4.heap.size := hk4.size
  clear hs3 hm3 hK3 hk4
  go_wp2_with fail
  refine (blog_any 1 1 w4 cD_good hbf4 hm4 (by omega) (by unfold U; omega) hs4.lt.1 hs4.lt.2).mono ?_; rintro e w5 ⟨x, rfl, hbu5, _, hk5⟩
  have hs5 := hs4.kept hk5
  have hm5 := hm4.kept hk5 (by omega)
  have hK5 : Kept w w5 := hK4.trans' hk5
  have z5 : w4.heap.size ≤ w5.heap.size := hk5.size
  replace hbu5 : BuAt w5 x bb bm bs bl (bb + 1) (bsRun cD 0 d0D).2.1 (bsRun cD 0 d0D).2.2 (Grow (NewB w3 w4) w4 w5) := hbu5
  replace hs5 : StoreAt w5 bs bl (bsRun cD 0 d0D).1 0 := hs5
  have hO5 : ∀ k, Grow (NewB w3 w4) w4 w5 k → w1.heap.size ≤ k := Grow.ge (NewB.ge hB) (by omega)
  generalize Grow (NewB w3 w4) w4 w5 = O5 at *
  clear hs4 hm4 hK4 hk5 hbf4
  go_wp2_with fail
  go_loopw [6] (fun iv wr => ∃ (k : Nat) (n' : Int), k ≤ 2 ∧ iv = .int .i64 ((k : Int) + 1) ∧ BuAt wr x bb bm bs bl (bb + 1) (bsRun cD k d0D).2.1 (bsRun cD k d0D).2.2 (Grow O5 w5 wr) ∧ StoreAt wr bs bl (bsRun cD k d0D).1 n' ∧ Chg (OwnB O5 bs bl) w5 wr) (fun iv _ => 30 - (intOf iv).toNat)
  case atStart => exact ⟨0, 0, by omega, rfl, by rw [Grow.self]; exact hbu5, hs5, Chg.refl _ _⟩
  case round =>
    obtain ⟨k, n', hk, rfl, h', hs', hc⟩ := hrel
    have z1 := hc.size
    have hm' : MapAt _ w1.heap.size bm cD := hm5.below (hc.ownBelow (by omega) hO5 hBs hBl) (Nat.le_refl _)
    have hO' := Grow.ge (w' := wr) hO5 (show w1.heap.size ≤ w5.heap.size by omega)
    have D := bstep_any _ cD_good h' (by have := dw0.2.2 k (by omega); omega) hs' hm' (by omega) hO' hBs hBl
    rw [show bsStep cD (bsRun cD k d0D).1 (bsRun cD k d0D).2.1 (bsRun cD k d0D).2.2 = bsRun cD (k + 1) d0D from rfl] at D
    have HO : Hid _ := hO'
    clear hO'
    by_cases hk2 : k < 2
    · rw [dw0.1 k hk2] at D
      go_wp2_with fail
      refine D.mono ?_; rintro e w6 ⟨rfl, h2, hs2, hc2⟩
      go_wp2_with fail
      go_roundw
      case rel =>
        have z2 := hc2.size
        exact ⟨k + 1, _, by omega, by go_num, by rw [← Grow.eq z1 z2]; exact h2, hs2, hc.grow hc2⟩
      case measure => simp [intOf]; omega
    · obtain rfl : k = 2 := by omega
      rw [show (bsRun cD (2 + 1) d0D).2.2.pc.fin = true from dw0.2.1] at D
      go_wp2_with fail
      refine D.mono ?_; rintro e w6 ⟨rfl, h6, hs6, hc2⟩
      have z2 := hc2.size
      have hc6 := hc.grow hc2
      have hb6 := hc6.ownBelow (B := w1.heap.size) (by omega) hO5 hBs hBl
      have hm6 := hm5.below hb6 (Nat.le_refl _)
      have hK6 : Kept w w6 := hK5.trans (hb6.mono hW)
      have z6 : w5.heap.size ≤ w6.heap.size := hc6.size
      rw [Grow.eq z1 z2] at h6
      have hf6 := h6.buf
      replace hf6 : BfAt w6 bb bm bs bl (bb + 1) (bsRun cD 3 d0D).2.1 _ := hf6
      rw [dw1] at hf6
      have hO6 := Grow.ge (w' := w6) hO5 (show w1.heap.size ≤ w5.heap.size by omega)
      generalize Grow O5 w5 w6 = O6 at *
      clear D hc hc2 h' hs' hm' HO h6 hb6 hc6 hm5 hK5 hbu5 hs5
      go_wp2_with fail
      refine (btasks_any w6 hf6 (by simp)).mono ?_; rintro e w7 ⟨v7, rfl, hr7, hgb7, hk7⟩
      obtain ⟨ao7, cap7, rfl, hml7, hc7⟩ := hr7.ex
      obtain ⟨g7, rfl, hg7, hcell7⟩ := hc7 0 (.int .u64 (pairI 1 0)) rfl
      have hgb7' := hgb7 (by simp) g7 rfl
      have hg6 : ¬ OwnB O6 bs bl g7 := by
        have hl6 := hs6.lt
        rintro (e | e | e)
        · have := (hf6.own _ e).1; omega
        · omega
        · omega
      have hs7 := hs6.kept hk7
      have hm7 := hm6.kept hk7 (by omega)
      have hf7 := hf6.kept hk7
      have hK7 : Kept w w7 := hK6.trans' hk7
      have z7 : w6.heap.size ≤ w7.heap.size := hk7.size
      clear hr7 hc7 hk7 hs6 hm6 hf6 hK6
      go_wp2_with fail
      refine (blog_any 2 1 w7 cD_good hf7 hm7 (by omega) (by unfold U; omega) hs7.lt.1 hs7.lt.2).mono ?_; rintro e w8 ⟨y, rfl, hbu8, _, hk8⟩
      have hs8 := hs7.kept hk8
      have hm8 := hm7.kept hk8 (by omega)
      have hK8 : Kept w w8 := hK7.trans' hk8
      have z8 : w7.heap.size ≤ w8.heap.size := hk8.size
      have hcell8 : w8.cell? ⟨g7, 0, none⟩ = some (.int .u64 (pairI 1 0)) := by rw [Below.cell hk8 hg7]; exact hcell7
      replace hbu8 : BuAt w8 y bb bm bs bl (bb + 1) (bsRun cD 0 d1D).2.1 (bsRun cD 0 d1D).2.2 (Grow O6 w7 w8) := by
        show BuAt w8 y bb bm bs bl (bb + 1) (bsRun cD 3 d0D).2.1 _ _
        rw [dw1]; exact hbu8
      replace hs8 : StoreAt w8 bs bl (bsRun cD 0 d1D).1 _ := hs8
      have hO8 := Grow.ge (w' := w8) hO6 (show w1.heap.size ≤ w7.heap.size by omega)
      have hg8 : ¬ OwnB (Grow O6 w7 w8) bs bl g7 := by
        rintro ((e | e) | e)
        · exact hg6 (.inl e)
        · omega
        · exact hg6 (.inr e)
      generalize Grow O6 w7 w8 = O8 at *
      clear hs7 hm7 hK7 hk8 hf7
      clear hg6 hgb7
      go_wp2_with fail
      go_loopw [9] (fun iv wr => ∃ (k : Nat) (n' : Int), k ≤ 11 ∧ iv = .int .i64 ((k : Int) + 1) ∧ BuAt wr y bb bm bs bl (bb + 1) (bsRun cD k d1D).2.1 (bsRun cD k d1D).2.2 (Grow O8 w8 wr) ∧ StoreAt wr bs bl (bsRun cD k d1D).1 n' ∧ Chg (OwnB O8 bs bl) w8 wr) (fun iv _ => 30 - (intOf iv).toNat)
      case atStart => exact ⟨0, _, by omega, rfl, by rw [Grow.self]; exact hbu8, hs8, Chg.refl _ _⟩
      case round =>
        obtain ⟨k, n', hk, rfl, h', hs', hc⟩ := hrel
        have z1 := hc.size
        have hm' : MapAt _ w1.heap.size bm cD := hm8.below (hc.ownBelow (by omega) hO8 hBs hBl) (Nat.le_refl _)
        have hO' := Grow.ge (w' := wr) hO8 (show w1.heap.size ≤ w8.heap.size by omega)
        have D := bstep_any _ cD_good h' (by have := dw2.2.2 k (by omega); omega) hs' hm' (by omega) hO' hBs hBl
        rw [show bsStep cD (bsRun cD k d1D).1 (bsRun cD k d1D).2.1 (bsRun cD k d1D).2.2 = bsRun cD (k + 1) d1D from rfl] at D
        have HO : Hid _ := hO'
        clear hO'
        by_cases hk11 : k < 11
        · rw [dw2.1 k hk11] at D
          go_wp2_with fail
          refine D.mono ?_; rintro e w9 ⟨rfl, h2, hs2, hc2⟩
          go_wp2_with fail
          go_roundw
          case rel =>
            have z2 := hc2.size
            exact ⟨k + 1, _, by omega, by go_num, by rw [← Grow.eq z1 z2]; exact h2, hs2, hc.grow hc2⟩
          case measure => simp [intOf]; omega
        · obtain rfl : k = 11 := by omega
          rw [show (bsRun cD (11 + 1) d1D).2.2.pc.fin = true from dw2.2.1] at D
          go_wp2_with fail
          refine D.mono ?_; rintro e w9 ⟨rfl, h9, hs9, hc2⟩
          have z2 := hc2.size
          have hc9 := hc.grow hc2
          have hb9 := hc9.ownBelow (B := w1.heap.size) (by omega) hO8 hBs hBl
          have hm9 := hm8.below hb9 (Nat.le_refl _)
          have hK9 : Kept w w9 := hK8.trans (hb9.mono hW)
          have z9 : w8.heap.size ≤ w9.heap.size := hc9.size
          have hf9 := h9.buf
          replace hf9 : BfAt w9 bb bm bs bl (bb + 1) (bsRun cD 12 d1D).2.1 _ := hf9
          rw [dw3] at hf9
          replace hs9 : StoreAt w9 bs bl (bsRun cD 12 d1D).1 _ := hs9
          have hcell9 : w9.cell? ⟨g7, 0, none⟩ = some (.int .u64 (pairI 1 0)) := by
            rw [World.cell?_of_block (hc9.block g7 (by have := lt_of_cell hcell8; exact this) hg8)]; exact hcell8
          have hpv : (1 : Int) * 4294967296 + 0 = pairI 1 0 := rfl
          clear D hc hc2 h' hs' hm' HO h9 hb9 hc9 hm8 hK8 hbu8 hs8 hcell7 hcell8
          generalize pairI 1 0 = pv at *
          go_wp2_with fail
          go_region_held3 (fun w' => w'.cell? ⟨g7, 0, none⟩ = some (.int .u64 pv)) (first | exact hcell9 | exact hcell10 | exact hcell11 | exact hcell12)
            (first
             | (go_at_call 31; refine (pair_any 1 0 _ (by omega) (by omega) (by omega) (by omega)).mono ?_; rintro r wp ⟨rfl, rfl⟩; rw [hpv])
             | (go_at_call 18; refine (btasks_any _ (hf9.kept (show Kept w9 w9.drew from (Below.refl _ _).drew)) (by simp)).mono ?_; rintro r w10 ⟨v10, rfl, hr10, _, hk10⟩
                obtain ⟨ao10, cap10, rfl, _⟩ := hr10.ex
                have hcell10 : w10.cell? ⟨g7, 0, none⟩ = some (.int .u64 pv) := by rw [Below.cell hk10 (by have := lt_of_cell hcell9; exact this)]; exact hcell9
                have hs10 := (hs9.drew).kept hk10
                have hm10 := (hm9.drew).kept hk10 (show w1.heap.size ≤ w9.heap.size by omega)
                have z10 : w9.heap.size ≤ w10.heap.size := hk10.size
                have hK10 : Kept w w10 := (show Kept w w9.drew from hK9.drew).trans' hk10
                try simp only [List.map_nil, List.length_nil])
             | (go_at_call 17; refine (mAll_any _ hs10).mono ?_; rintro r w11 ⟨rfl, hb11, hk11⟩
                have hcell11 : w11.cell? ⟨g7, 0, none⟩ = some (.int .u64 pv) := by rw [Below.cell hk11 (by have := lt_of_cell hcell10; exact this)]; exact hcell10
                have hr11 : Row w11 (.slice (some ⟨w10.heap.size, 0, none⟩) (bsRun cD 12 d1D).1.length (bsRun cD 12 d1D).1.length) ((bsRun cD 12 d1D).1.map (Value.int .u64)) := by
                  have := hb11.row (by have := hs10.le; simp; unfold maxLen; omega)
                  simpa using this
                have hm11 := hm10.kept hk11 (by omega)
                have z11 : w10.heap.size ≤ w11.heap.size := hk11.size
                have hK11 : Kept w w11 := hK10.trans' hk11)
             | (go_at_call 16; refine (held_any _ cD_good hm11 (by omega) hr11 hs10.pos hs10.le hs10.all).mono ?_; rintro r w12 ⟨v12, rfl, own12, hk12⟩
                rw [dw4] at own12
                obtain ⟨a12, c12, rfl⟩ := own_slice own12
                have hcell12 : w12.cell? ⟨g7, 0, none⟩ = some (.int .u64 pv) := by rw [Below.cell hk12 (by have := lt_of_cell hcell11; exact this)]; exact hcell11
                have hK12 : Kept w w12 := hK11.trans' hk12))
          all_goals go_wp2_with fail
          all_goals go_ret
          all_goals exact ⟨rfl, hK12⟩

end Go.Proofs.Ytapdpclgbpgklaa
