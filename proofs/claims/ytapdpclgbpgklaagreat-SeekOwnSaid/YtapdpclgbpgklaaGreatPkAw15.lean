/- Chapter 15's example: walked. -/
import Derived.Test.YtapdpclgbpgklaaGreatPkAwake15
namespace Go.Proofs.YtapdpclgbpgklaaGreat
open Go.RowKit

theorem growGe15 {O : Nat → Prop} {w w' : World} {B : Nat} (h : ∀ k, O k → B ≤ k) (hB : B ≤ w.heap.size) : ∀ k, Grow O w w' k → B ≤ k := by
  rintro k (e | e)
  · exact h k e
  · omega

set_option maxRecDepth 8000 in
set_option maxHeartbeats 3200000 in
theorem awake15_any (w : World) :
    Calls Tryz.prog 47 #[] w fun e w' => e = .returned (.bool true) ∧ Kept w w' := by
  obtain ⟨hl0, hl1, hall⟩ := first_facts cB_good
  go_enter Tryz.func47, Tryz.ntmps47
  go_wp2_with fail
  refine (new_good cB w cB_good).mono ?_; rintro e w1 ⟨bm, rfl, hm1, hk1⟩
  go_wp2_with fail
  refine (first_any w1 hm1 cB_good (Nat.le_refl _)).mono ?_; rintro e w2 ⟨v, rfl, hr2, hk2⟩
  go_wp2_with fail
  refine (new_any w2 hr2 hl0 hl1 hall).mono ?_; rintro e w3 ⟨bs, bl, rfl, hs3, hb3, hl3, hk3⟩
  have hm3 := (hm1.kept hk2 (Nat.le_refl _)).kept hk3 hk2.size
  have hK3 : Kept w w3 := (hk1.trans' hk2).trans' hk3
  have hB : w1.heap.size ≤ w3.heap.size := Nat.le_trans hk2.size hk3.size
  have hBs : w1.heap.size ≤ bs := Nat.le_trans hk2.size hb3
  have hBl : w1.heap.size ≤ bl := Nat.le_trans hk2.size hl3
  have hW : w.heap.size ≤ w1.heap.size := hk1.size
  have hl := hs3.lt
  clear hr2 hk2 hk3 hm1 hb3 hl3 hk1
  go_wp2_with fail
  refine (seekNew_any (bs := bs) (bl := bl) 0 0 0 0 0 w3 cB_good hm3 hB hl.1 hl.2).mono ?_; rintro e w7 ⟨x, rfl, hx7, hxx, hk7⟩
  have hs7 := hs3.kept hk7
  have hm7 := hm3.kept hk7 (by omega)
  have hK7 : Kept w w7 := hK3.trans' hk7
  have z7 : w3.heap.size ≤ w7.heap.size := hk7.size
  replace hx7 : SkAt w7 x bm bs bl cB (skRun cB 0 g0K).2 (NewB w3 w7) := hx7
  have hO7 : ∀ k, NewB w3 w7 k → w1.heap.size ≤ k := NewB.ge (by omega)
  generalize NewB w3 w7 = O7 at *
  obtain ⟨n7, hn7⟩ : ∃ n7, StoreAt w7 bs bl (skRun cB 0 g0K).1 n7 := ⟨_, hs7⟩
  clear hs3 hm3 hK3 hk7 hs7
  go_wp2_with fail
  go_loopw [5] (fun iv wr => ∃ (k : Nat) (n' : Int), k ≤ 4 ∧ iv = .int .i64 ((k : Int) + 1) ∧ SkAt wr x bm bs bl cB (skRun cB k g0K).2 (Grow O7 w7 wr) ∧ StoreAt wr bs bl (skRun cB k g0K).1 n' ∧ Chg (OwnB O7 bs bl) w7 wr) (fun iv _ => 40 - (intOf iv).toNat)
  case atStart => exact ⟨0, n7, by omega, rfl, by rw [Grow.self]; exact hx7, hn7, Chg.refl _ _⟩
  case round =>
    obtain ⟨k, n', hk, rfl, h', hs', hc⟩ := hrel
    have z1 := hc.size
    have hm' : MapAt _ w1.heap.size bm cB := hm7.below (hc.ownBelow (by omega) hO7 hBs hBl) (Nat.le_refl _)
    have hO' := growGe15 (w' := wr) hO7 (show w1.heap.size ≤ w7.heap.size by omega)
    have D := skstep_any wr cB_good h' hs' hm' (by omega) hO' hBs hBl
    rw [show skStep cB (skRun cB k g0K).1 (skRun cB k g0K).2 = skRun cB (k + 1) g0K from rfl] at D
    clear hO'
    by_cases hk2 : k < 4
    · rw [gw0.1 k hk2] at D
      go_wp2_with fail
      refine D.mono ?_; rintro e w8 ⟨rfl, h2, hs2, hc2⟩
      go_wp2_with fail
      go_roundw
      case rel =>
        have z2 := hc2.size
        exact ⟨k + 1, _, by omega, by go_num, by rw [← Grow.eq z1 z2]; exact h2, hs2, hc.grow hc2⟩
      case measure => simp [intOf]; omega
    · obtain rfl : k = 4 := by omega
      rw [show (skRun cB (4 + 1) g0K).2.pc.fin = true from gw0.2.1] at D
      go_wp2_with fail
      refine D.mono ?_; rintro e w8 ⟨rfl, h8, hs8, hc2⟩
      have hc8 := hc.grow hc2
      have hb8 := hc8.ownBelow (B := w1.heap.size) (by omega) hO7 hBs hBl
      have hK8 : Kept w w8 := hK7.trans (hb8.mono hW)
      have T := skTask_any w8 h8
      rw [show (skRun cB (4 + 1) g0K).2.found = false from gw0.2.2] at T
      simp only [Bool.false_eq_true, ↓reduceIte] at T
      have V1 := fun W => vict_any 3 1 4 W (by omega)
      have V2 := fun W => vict_any 1 0 5 W (by omega)
      rw [vict_ex.1] at V1
      rw [vict_ex.2] at V2
      clear D hc hc2 h' hs' hm' h8 hb8 hc8 hm7 hK7 hx7 hn7 hs8
      go_wp2_with fail
      refine T.mono ?_; rintro e wx ⟨rfl, rfl⟩
      go_wp2_with fail
      refine (V1 w8).mono ?_; rintro e wx ⟨rfl, rfl⟩
      go_wp2_with fail
      refine (V2 w8).mono ?_; rintro e wx ⟨rfl, rfl⟩
      go_wp2_with fail
      go_ret
      exact ⟨rfl, hK8⟩

end Go.Proofs.YtapdpclgbpgklaaGreat
