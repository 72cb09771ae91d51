/- The document's packets: what begins: walked. -/
import Derived.Test.YtfbcadknimfhjaaGreatPkRef11s
namespace Go.Proofs.YtfbcadknimfhjaaGreat
open Go.RowKit

set_option maxRecDepth 8000 in
set_option maxHeartbeats 1600000 in
theorem putR_none {c : Cfg} {a : Value} (x : SM) (w : World) (ha : MapV w c a) (ao0 : Option Addr) (cp0 : Nat) :
    Calls Tryz.prog 47 #[a, .slice ao0 0 cp0] w fun e w' => ∃ v', e = .returned v' ∧ R11 w' v' (linksL c) (.slice none 0 0) (.slice none 0 0) ⟨.done, [], 0, 0, x⟩ ∧ Kept w w' := by
  obtain ⟨va, rfl, hT⟩ := ha
  obtain ⟨ao, acap, rfl, _⟩ := hT.ex
  have HV : Hid (∀ W, Kept w W → MapV W c (.agg #[.slice ao (allT c).length acap, .int .i64 (manyI c)])) := fun W k => ⟨_, rfl, hT.kept k⟩
  clear hT
  generalize (allT c).length = ln at *
  have hA0 := Blk.new w 35 [.slice ao ln acap, .int .i64 (manyI c)]
  have hk0 : Kept w (w.alloc (.cells ([.slice ao ln acap, .int .i64 (manyI c)] : List Value).toArray 35)) := (Below.refl _ _).alloc (Nat.le_refl _) _
  have z0 : (w.alloc (.cells ([.slice ao ln acap, .int .i64 (manyI c)] : List Value).toArray 35)).heap.size = w.heap.size + 1 := by simp
  go_enter Tryz.func47, Tryz.ntmps47
  go_wp2_with fail
  generalize w.alloc (.cells ([.slice ao ln acap, .int .i64 (manyI c)] : List Value).toArray 35) = w1 at *
  have hr9 := Blk.new w1 57 (r11L 1 0 (.slice none 0 0) 0 0 0 0 0 (.slice none 0 0) 0 0 0 0)
  rw [z0] at hr9
  have hk1 : Kept w1 (w1.alloc (.cells (r11L 1 0 (.slice none 0 0) 0 0 0 0 0 (.slice none 0 0) 0 0 0 0).toArray 57)) := (Below.refl _ _).alloc (Nat.le_refl _) _
  have hk9 := hk0.trans' hk1
  generalize w1.alloc (.cells (r11L 1 0 (.slice none 0 0) 0 0 0 0 0 (.slice none 0 0) 0 0 0 0).toArray 57) = w9 at *
  have k0 := hr9.cell 0
  have k1 := hr9.cell 1
  have k2 := hr9.cell 2
  have k3 := hr9.cell 3
  have k4 := hr9.cell 4
  have k5 := hr9.cell 5
  have k6 := hr9.cell 6
  have k7 := hr9.cell 7
  have k8 := hr9.cell 8
  have k9 := hr9.cell 9
  have k10 := hr9.cell 10
  have k11 := hr9.cell 11
  have k12 := hr9.cell 12
  simp only [List.getElem?_cons_zero, List.getElem?_cons_succ] at k0 k1 k2 k3 k4 k5 k6 k7 k8 k9 k10 k11 k12
  exact bodyPost_ret (v := .agg (r11L 1 0 (.slice none 0 0) 0 0 0 0 0 (.slice none 0 0) 0 0 0 0).toArray) (by simp [results, Tryz.results47, go_sem, k0, k1, k2, k3, k4, k5, k6, k7, k8, k9, k10, k11, k12]) rfl ⟨_, rfl, R11.done0 1 _ x, hk9⟩

set_option maxRecDepth 8000 in
set_option maxHeartbeats 1600000 in
theorem putR_ref {c : Cfg} {a : Value} {ad : Addr} {tn tc : Nat} {ts : List Int} (w : World) (hg : Good c) (ha : MapV w c a) (ht : Reads w (.slice (some ad) tn tc) (ts.map (Value.int .u64))) (hn : tn = ts.length) (hp : 0 < ts.length) (hl : ts.length ≤ 1000) (htc : tn ≤ tc ∧ tc ≤ maxLen) :
    Calls Tryz.prog 47 #[a, .slice (some ad) tn tc] w fun e w' => ∃ v' xv, e = .returned v' ∧ R11 w' v' (linksL c) (.slice (some ad) (min tn 4) tc) xv ⟨.spare, ts.take 4, 0, 0, ⟨.popHead, 5, 0, 0, 0⟩⟩ ∧ Kept w w' ∧ (∀ g, xv.ownBlock = some g → w.heap.size ≤ g) := by
  have HT : Hid (∀ W, Kept w W → ∃ m : Nat, m = (min tn 4) ∧ Reads W (.slice (some ad) m tc) ((ts.take 4).map (Value.int .u64))) := fun W k => by
    refine ⟨_, rfl, ?_⟩
    rcases ht with ⟨h0, _⟩ | ⟨ad', cap, h1, h2, h3, h4⟩
    · cases h0
    · simp only [Value.slice.injEq, Option.some.injEq] at h1
      obtain ⟨rfl, h5, rfl⟩ := h1
      refine .inr ⟨ad, tc, ?_, ?_, h3, fun i u hu => ?_⟩
      · simp; omega
      · simp; simp at h2; omega
      · have : (ts.map (Value.int .u64))[i]? = some u := by
          rw [List.map_take, List.getElem?_take] at hu
          split at hu
          · exact hu
          · cases hu
        have := h4 i u this
        rw [Below.cell k (World.block_lt_of_cell? w _ this)]; exact this
  obtain ⟨htc0, htc1⟩ := htc
  have htn : 0 < tn := by omega
  have hn1000 : tn ≤ 1000 := by omega
  clear ht hn hp hl
  obtain ⟨va, rfl, hT⟩ := ha
  obtain ⟨ao, acap, rfl, _⟩ := hT.ex
  have HV : Hid (∀ W, Kept w W → MapV W c (.agg #[.slice ao (allT c).length acap, .int .i64 (manyI c)])) := fun W k => ⟨_, rfl, hT.kept k⟩
  clear hT
  generalize (allT c).length = ln at *
  have hA0 := Blk.new w 35 [.slice ao ln acap, .int .i64 (manyI c)]
  have hk0 : Kept w (w.alloc (.cells ([.slice ao ln acap, .int .i64 (manyI c)] : List Value).toArray 35)) := (Below.refl _ _).alloc (Nat.le_refl _) _
  have z0 : (w.alloc (.cells ([.slice ao ln acap, .int .i64 (manyI c)] : List Value).toArray 35)).heap.size = w.heap.size + 1 := by simp
  by_cases h4 : tn ≤ 4
  · have h4' : ¬ (tn : Int) > 4 := by omega
    rw [show min tn 4 = tn from by omega]
    go_enter Tryz.func47, Tryz.ntmps47
    go_wp2_with fail
    generalize w.alloc (.cells ([.slice ao ln acap, .int .i64 (manyI c)] : List Value).toArray 35) = w1 at *
    have hr0 := Blk.new w1 57 [.int .i64 0, .int .i64 0, .slice none 0 0, .int .i64 0, .int .i64 0, .int .i64 0, .int .i64 0, .int .i64 0, .slice none 0 0, .int .u32 0, .int .u64 0, .int .u32 0, .int .i64 0]
    rw [z0] at hr0
    have hk1 : Kept w1 (w1.alloc (.cells ([.int .i64 0, .int .i64 0, .slice none 0 0, .int .i64 0, .int .i64 0, .int .i64 0, .int .i64 0, .int .i64 0, .slice none 0 0, .int .u32 0, .int .u64 0, .int .u32 0, .int .i64 0] : List Value).toArray 57)) := (Below.refl _ _).alloc (Nat.le_refl _) _
    have z1 : (w1.alloc (.cells ([.int .i64 0, .int .i64 0, .slice none 0 0, .int .i64 0, .int .i64 0, .int .i64 0, .int .i64 0, .int .i64 0, .slice none 0 0, .int .u32 0, .int .u64 0, .int .u32 0, .int .i64 0] : List Value).toArray 57)).heap.size = w.heap.size + 2 := by simp [z0]
    generalize w1.alloc (.cells ([.int .i64 0, .int .i64 0, .slice none 0 0, .int .i64 0, .int .i64 0, .int .i64 0, .int .i64 0, .int .i64 0, .slice none 0 0, .int .u32 0, .int .u64 0, .int .u32 0, .int .i64 0] : List Value).toArray 57) = w2 at *
    have hk2 : Kept w w2 := hk0.trans' hk1
    clear hk0 hA0 hk1 z0
    refine (stack_ref 5 w2 hg (HV.out _ hk2) (place_one (by omega) (by omega))).mono ?_; rintro e w3 ⟨vk, rfl, hrow, hk3, hownk⟩
    obtain ⟨yo, yc, hvk⟩ := hrow.form
    obtain ⟨yn, hyn⟩ : ∃ yn, yn = ((linksL c).map (Value.int .i64)).length := ⟨_, rfl⟩
    rw [← hyn] at hvk
    subst hvk
    clear hyn
    go_wp2_with fail
    refine (pop_ref 5 w3 hrow).mono ?_; rintro e w4 ⟨vx, rfl, hx9, hk4⟩
    obtain ⟨yk, yt, rfl⟩ := hx9.parts
    simp only [pcN] at hx9 ⊢
    have hr4 := (hk3.trans' hk4).blk hr0
    have hk9a := (hk2.trans' hk3).trans' hk4
    have c0 := hr4.cell 0
    have c1 := hr4.cell 1
    have c2 := hr4.cell 2
    have c3 := hr4.cell 3
    have c4 := hr4.cell 4
    have c5 := hr4.cell 5
    have c6 := hr4.cell 6
    have c7 := hr4.cell 7
    have c8 := hr4.cell 8
    have c9 := hr4.cell 9
    have c10 := hr4.cell 10
    have c11 := hr4.cell 11
    have c12 := hr4.cell 12
    have f0 := hr4.free 0
    have f1 := hr4.free 1
    have f2 := hr4.free 2
    have f3 := hr4.free 3
    have f4 := hr4.free 4
    have f5 := hr4.free 5
    have f6 := hr4.free 6
    have f7 := hr4.free 7
    have f8 := hr4.free 8
    have f9 := hr4.free 9
    have f10 := hr4.free 10
    have f11 := hr4.free 11
    have f12 := hr4.free 12
    simp only [List.getElem?_cons_zero, List.getElem?_cons_succ] at c0 c1 c2 c3 c4 c5 c6 c7 c8 c9 c10 c11 c12
    go_wp2_with fail
    have hr9 : Blk (((((((((((((w4.setCell ⟨w.heap.size + 1, 0, none⟩ (.int .i64 (1))).setCell ⟨w.heap.size + 1, 1, none⟩ (.int .i64 (1))).setCell ⟨w.heap.size + 1, 2, none⟩ (.slice (some ad) tn tc)).setCell ⟨w.heap.size + 1, 3, none⟩ (.int .i64 (0))).setCell ⟨w.heap.size + 1, 4, none⟩ (.int .i64 (0))).setCell ⟨w.heap.size + 1, 5, none⟩ (.int .i64 (yk))).setCell ⟨w.heap.size + 1, 6, none⟩ (.int .i64 (1))).setCell ⟨w.heap.size + 1, 7, none⟩ (.int .i64 (5))).setCell ⟨w.heap.size + 1, 8, none⟩ (.slice yo yn yc)).setCell ⟨w.heap.size + 1, 9, none⟩ (.int .u32 (0))).setCell ⟨w.heap.size + 1, 10, none⟩ (.int .u64 (0))).setCell ⟨w.heap.size + 1, 11, none⟩ (.int .u32 (0))).setCell ⟨w.heap.size + 1, 12, none⟩ (.int .i64 (yt))) (w.heap.size + 1) 57 [.int .i64 (1), .int .i64 (1), .slice (some ad) tn tc, .int .i64 (0), .int .i64 (0), .int .i64 (yk), .int .i64 (1), .int .i64 (5), .slice yo yn yc, .int .u32 (0), .int .u64 (0), .int .u32 (0), .int .i64 (yt)] := (((((((((((((hr4.set' 0 (.int .i64 (1)) rfl).set' 1 (.int .i64 (1)) rfl).set' 2 (.slice (some ad) tn tc) rfl).set' 3 (.int .i64 (0)) rfl).set' 4 (.int .i64 (0)) rfl).set' 5 (.int .i64 (yk)) rfl).set' 6 (.int .i64 (1)) rfl).set' 7 (.int .i64 (5)) rfl).set' 8 (.slice yo yn yc) rfl).set' 9 (.int .u32 (0)) rfl).set' 10 (.int .u64 (0)) rfl).set' 11 (.int .u32 (0)) rfl).set' 12 (.int .i64 (yt)) rfl)
    have hk9 : Kept w (((((((((((((w4.setCell ⟨w.heap.size + 1, 0, none⟩ (.int .i64 (1))).setCell ⟨w.heap.size + 1, 1, none⟩ (.int .i64 (1))).setCell ⟨w.heap.size + 1, 2, none⟩ (.slice (some ad) tn tc)).setCell ⟨w.heap.size + 1, 3, none⟩ (.int .i64 (0))).setCell ⟨w.heap.size + 1, 4, none⟩ (.int .i64 (0))).setCell ⟨w.heap.size + 1, 5, none⟩ (.int .i64 (yk))).setCell ⟨w.heap.size + 1, 6, none⟩ (.int .i64 (1))).setCell ⟨w.heap.size + 1, 7, none⟩ (.int .i64 (5))).setCell ⟨w.heap.size + 1, 8, none⟩ (.slice yo yn yc)).setCell ⟨w.heap.size + 1, 9, none⟩ (.int .u32 (0))).setCell ⟨w.heap.size + 1, 10, none⟩ (.int .u64 (0))).setCell ⟨w.heap.size + 1, 11, none⟩ (.int .u32 (0))).setCell ⟨w.heap.size + 1, 12, none⟩ (.int .i64 (yt))) := (Below.setCell (Below.setCell (Below.setCell (Below.setCell (Below.setCell (Below.setCell (Below.setCell (Below.setCell (Below.setCell (Below.setCell (Below.setCell (Below.setCell (Below.setCell hk9a (p := ⟨w.heap.size + 1, 0, none⟩) (by simp) _) (p := ⟨w.heap.size + 1, 1, none⟩) (by simp) _) (p := ⟨w.heap.size + 1, 2, none⟩) (by simp) _) (p := ⟨w.heap.size + 1, 3, none⟩) (by simp) _) (p := ⟨w.heap.size + 1, 4, none⟩) (by simp) _) (p := ⟨w.heap.size + 1, 5, none⟩) (by simp) _) (p := ⟨w.heap.size + 1, 6, none⟩) (by simp) _) (p := ⟨w.heap.size + 1, 7, none⟩) (by simp) _) (p := ⟨w.heap.size + 1, 8, none⟩) (by simp) _) (p := ⟨w.heap.size + 1, 9, none⟩) (by simp) _) (p := ⟨w.heap.size + 1, 10, none⟩) (by simp) _) (p := ⟨w.heap.size + 1, 11, none⟩) (by simp) _) (p := ⟨w.heap.size + 1, 12, none⟩) (by simp) _)
    have hc9 : Chg (fun q => q = w.heap.size + 1) w4 (((((((((((((w4.setCell ⟨w.heap.size + 1, 0, none⟩ (.int .i64 (1))).setCell ⟨w.heap.size + 1, 1, none⟩ (.int .i64 (1))).setCell ⟨w.heap.size + 1, 2, none⟩ (.slice (some ad) tn tc)).setCell ⟨w.heap.size + 1, 3, none⟩ (.int .i64 (0))).setCell ⟨w.heap.size + 1, 4, none⟩ (.int .i64 (0))).setCell ⟨w.heap.size + 1, 5, none⟩ (.int .i64 (yk))).setCell ⟨w.heap.size + 1, 6, none⟩ (.int .i64 (1))).setCell ⟨w.heap.size + 1, 7, none⟩ (.int .i64 (5))).setCell ⟨w.heap.size + 1, 8, none⟩ (.slice yo yn yc)).setCell ⟨w.heap.size + 1, 9, none⟩ (.int .u32 (0))).setCell ⟨w.heap.size + 1, 10, none⟩ (.int .u64 (0))).setCell ⟨w.heap.size + 1, 11, none⟩ (.int .u32 (0))).setCell ⟨w.heap.size + 1, 12, none⟩ (.int .i64 (yt))) := ((((((((((((((Chg.refl (fun q => q = w.heap.size + 1) w4).setCell ⟨w.heap.size + 1, 0, none⟩ (.int .i64 (1)) (fun _ => rfl)).setCell ⟨w.heap.size + 1, 1, none⟩ (.int .i64 (1)) (fun _ => rfl)).setCell ⟨w.heap.size + 1, 2, none⟩ (.slice (some ad) tn tc) (fun _ => rfl)).setCell ⟨w.heap.size + 1, 3, none⟩ (.int .i64 (0)) (fun _ => rfl)).setCell ⟨w.heap.size + 1, 4, none⟩ (.int .i64 (0)) (fun _ => rfl)).setCell ⟨w.heap.size + 1, 5, none⟩ (.int .i64 (yk)) (fun _ => rfl)).setCell ⟨w.heap.size + 1, 6, none⟩ (.int .i64 (1)) (fun _ => rfl)).setCell ⟨w.heap.size + 1, 7, none⟩ (.int .i64 (5)) (fun _ => rfl)).setCell ⟨w.heap.size + 1, 8, none⟩ (.slice yo yn yc) (fun _ => rfl)).setCell ⟨w.heap.size + 1, 9, none⟩ (.int .u32 (0)) (fun _ => rfl)).setCell ⟨w.heap.size + 1, 10, none⟩ (.int .u64 (0)) (fun _ => rfl)).setCell ⟨w.heap.size + 1, 11, none⟩ (.int .u32 (0)) (fun _ => rfl)).setCell ⟨w.heap.size + 1, 12, none⟩ (.int .i64 (yt)) (fun _ => rfl))
    generalize (((((((((((((w4.setCell ⟨w.heap.size + 1, 0, none⟩ (.int .i64 (1))).setCell ⟨w.heap.size + 1, 1, none⟩ (.int .i64 (1))).setCell ⟨w.heap.size + 1, 2, none⟩ (.slice (some ad) tn tc)).setCell ⟨w.heap.size + 1, 3, none⟩ (.int .i64 (0))).setCell ⟨w.heap.size + 1, 4, none⟩ (.int .i64 (0))).setCell ⟨w.heap.size + 1, 5, none⟩ (.int .i64 (yk))).setCell ⟨w.heap.size + 1, 6, none⟩ (.int .i64 (1))).setCell ⟨w.heap.size + 1, 7, none⟩ (.int .i64 (5))).setCell ⟨w.heap.size + 1, 8, none⟩ (.slice yo yn yc)).setCell ⟨w.heap.size + 1, 9, none⟩ (.int .u32 (0))).setCell ⟨w.heap.size + 1, 10, none⟩ (.int .u64 (0))).setCell ⟨w.heap.size + 1, 11, none⟩ (.int .u32 (0))).setCell ⟨w.heap.size + 1, 12, none⟩ (.int .i64 (yt))) = w9 at *
    clear c0 f0 c1 f1 c2 f2 c3 f3 c4 f4 c5 f5 c6 f6 c7 f7 c8 f8 c9 f9 c10 f10 c11 f11 c12 f12
    have k0 := hr9.cell 0
    have k1 := hr9.cell 1
    have k2 := hr9.cell 2
    have k3 := hr9.cell 3
    have k4 := hr9.cell 4
    have k5 := hr9.cell 5
    have k6 := hr9.cell 6
    have k7 := hr9.cell 7
    have k8 := hr9.cell 8
    have k9 := hr9.cell 9
    have k10 := hr9.cell 10
    have k11 := hr9.cell 11
    have k12 := hr9.cell 12
    simp only [List.getElem?_cons_zero, List.getElem?_cons_succ] at k0 k1 k2 k3 k4 k5 k6 k7 k8 k9 k10 k11 k12
    exact bodyPost_ret (v := .agg ([.int .i64 (1), .int .i64 (1), .slice (some ad) tn tc, .int .i64 (0), .int .i64 (0), .int .i64 (yk), .int .i64 (1), .int .i64 (5), .slice yo yn yc, .int .u32 (0), .int .u64 (0), .int .u32 (0), .int .i64 (yt)] : List Value).toArray) (by simp [results, Tryz.results47, go_sem, k0, k1, k2, k3, k4, k5, k6, k7, k8, k9, k10, k11, k12]) rfl ⟨_, _, rfl, ⟨by show (0 : Int) ≤ 0 ∧ (0 : Int) < 4294967296; omega, ⟨Nat.zero_le _, by simp; omega⟩, 1, yk, 1, 5, 0, 0, 0, yt, rfl, (by obtain ⟨m, hm, hr⟩ := HT.out _ hk9; rw [show m = tn from by omega] at hr; exact hr), ⟨yo, yn, yc, rfl⟩, fun _ => hx9.chg hc9 (fun _ g e hq => by have := hownk g e; omega)⟩, hk9, fun g e => by have := hownk g e; omega⟩

  · have h4' : (tn : Int) > 4 := by omega
    rw [show min tn 4 = 4 from by omega]
    go_enter Tryz.func47, Tryz.ntmps47
    go_wp2_with fail
    generalize w.alloc (.cells ([.slice ao ln acap, .int .i64 (manyI c)] : List Value).toArray 35) = w1 at *
    have hr0 := Blk.new w1 57 [.int .i64 0, .int .i64 0, .slice none 0 0, .int .i64 0, .int .i64 0, .int .i64 0, .int .i64 0, .int .i64 0, .slice none 0 0, .int .u32 0, .int .u64 0, .int .u32 0, .int .i64 0]
    rw [z0] at hr0
    have hk1 : Kept w1 (w1.alloc (.cells ([.int .i64 0, .int .i64 0, .slice none 0 0, .int .i64 0, .int .i64 0, .int .i64 0, .int .i64 0, .int .i64 0, .slice none 0 0, .int .u32 0, .int .u64 0, .int .u32 0, .int .i64 0] : List Value).toArray 57)) := (Below.refl _ _).alloc (Nat.le_refl _) _
    have z1 : (w1.alloc (.cells ([.int .i64 0, .int .i64 0, .slice none 0 0, .int .i64 0, .int .i64 0, .int .i64 0, .int .i64 0, .int .i64 0, .slice none 0 0, .int .u32 0, .int .u64 0, .int .u32 0, .int .i64 0] : List Value).toArray 57)).heap.size = w.heap.size + 2 := by simp [z0]
    generalize w1.alloc (.cells ([.int .i64 0, .int .i64 0, .slice none 0 0, .int .i64 0, .int .i64 0, .int .i64 0, .int .i64 0, .int .i64 0, .slice none 0 0, .int .u32 0, .int .u64 0, .int .u32 0, .int .i64 0] : List Value).toArray 57) = w2 at *
    have hk2 : Kept w w2 := hk0.trans' hk1
    clear hk0 hA0 hk1 z0
    refine (stack_ref 5 w2 hg (HV.out _ hk2) (place_one (by omega) (by omega))).mono ?_; rintro e w3 ⟨vk, rfl, hrow, hk3, hownk⟩
    obtain ⟨yo, yc, hvk⟩ := hrow.form
    obtain ⟨yn, hyn⟩ : ∃ yn, yn = ((linksL c).map (Value.int .i64)).length := ⟨_, rfl⟩
    rw [← hyn] at hvk
    subst hvk
    clear hyn
    go_wp2_with fail
    refine (pop_ref 5 w3 hrow).mono ?_; rintro e w4 ⟨vx, rfl, hx9, hk4⟩
    obtain ⟨yk, yt, rfl⟩ := hx9.parts
    simp only [pcN] at hx9 ⊢
    have hr4 := (hk3.trans' hk4).blk hr0
    have hk9a := (hk2.trans' hk3).trans' hk4
    have c0 := hr4.cell 0
    have c1 := hr4.cell 1
    have c2 := hr4.cell 2
    have c3 := hr4.cell 3
    have c4 := hr4.cell 4
    have c5 := hr4.cell 5
    have c6 := hr4.cell 6
    have c7 := hr4.cell 7
    have c8 := hr4.cell 8
    have c9 := hr4.cell 9
    have c10 := hr4.cell 10
    have c11 := hr4.cell 11
    have c12 := hr4.cell 12
    have f0 := hr4.free 0
    have f1 := hr4.free 1
    have f2 := hr4.free 2
    have f3 := hr4.free 3
    have f4 := hr4.free 4
    have f5 := hr4.free 5
    have f6 := hr4.free 6
    have f7 := hr4.free 7
    have f8 := hr4.free 8
    have f9 := hr4.free 9
    have f10 := hr4.free 10
    have f11 := hr4.free 11
    have f12 := hr4.free 12
    simp only [List.getElem?_cons_zero, List.getElem?_cons_succ] at c0 c1 c2 c3 c4 c5 c6 c7 c8 c9 c10 c11 c12
    go_wp2_with fail
    have hr9 : Blk (((((((((((((w4.setCell ⟨w.heap.size + 1, 0, none⟩ (.int .i64 (1))).setCell ⟨w.heap.size + 1, 1, none⟩ (.int .i64 (1))).setCell ⟨w.heap.size + 1, 2, none⟩ (.slice (some ad) 4 tc)).setCell ⟨w.heap.size + 1, 3, none⟩ (.int .i64 (0))).setCell ⟨w.heap.size + 1, 4, none⟩ (.int .i64 (0))).setCell ⟨w.heap.size + 1, 5, none⟩ (.int .i64 (yk))).setCell ⟨w.heap.size + 1, 6, none⟩ (.int .i64 (1))).setCell ⟨w.heap.size + 1, 7, none⟩ (.int .i64 (5))).setCell ⟨w.heap.size + 1, 8, none⟩ (.slice yo yn yc)).setCell ⟨w.heap.size + 1, 9, none⟩ (.int .u32 (0))).setCell ⟨w.heap.size + 1, 10, none⟩ (.int .u64 (0))).setCell ⟨w.heap.size + 1, 11, none⟩ (.int .u32 (0))).setCell ⟨w.heap.size + 1, 12, none⟩ (.int .i64 (yt))) (w.heap.size + 1) 57 [.int .i64 (1), .int .i64 (1), .slice (some ad) 4 tc, .int .i64 (0), .int .i64 (0), .int .i64 (yk), .int .i64 (1), .int .i64 (5), .slice yo yn yc, .int .u32 (0), .int .u64 (0), .int .u32 (0), .int .i64 (yt)] := (((((((((((((hr4.set' 0 (.int .i64 (1)) rfl).set' 1 (.int .i64 (1)) rfl).set' 2 (.slice (some ad) 4 tc) rfl).set' 3 (.int .i64 (0)) rfl).set' 4 (.int .i64 (0)) rfl).set' 5 (.int .i64 (yk)) rfl).set' 6 (.int .i64 (1)) rfl).set' 7 (.int .i64 (5)) rfl).set' 8 (.slice yo yn yc) rfl).set' 9 (.int .u32 (0)) rfl).set' 10 (.int .u64 (0)) rfl).set' 11 (.int .u32 (0)) rfl).set' 12 (.int .i64 (yt)) rfl)
    have hk9 : Kept w (((((((((((((w4.setCell ⟨w.heap.size + 1, 0, none⟩ (.int .i64 (1))).setCell ⟨w.heap.size + 1, 1, none⟩ (.int .i64 (1))).setCell ⟨w.heap.size + 1, 2, none⟩ (.slice (some ad) 4 tc)).setCell ⟨w.heap.size + 1, 3, none⟩ (.int .i64 (0))).setCell ⟨w.heap.size + 1, 4, none⟩ (.int .i64 (0))).setCell ⟨w.heap.size + 1, 5, none⟩ (.int .i64 (yk))).setCell ⟨w.heap.size + 1, 6, none⟩ (.int .i64 (1))).setCell ⟨w.heap.size + 1, 7, none⟩ (.int .i64 (5))).setCell ⟨w.heap.size + 1, 8, none⟩ (.slice yo yn yc)).setCell ⟨w.heap.size + 1, 9, none⟩ (.int .u32 (0))).setCell ⟨w.heap.size + 1, 10, none⟩ (.int .u64 (0))).setCell ⟨w.heap.size + 1, 11, none⟩ (.int .u32 (0))).setCell ⟨w.heap.size + 1, 12, none⟩ (.int .i64 (yt))) := (Below.setCell (Below.setCell (Below.setCell (Below.setCell (Below.setCell (Below.setCell (Below.setCell (Below.setCell (Below.setCell (Below.setCell (Below.setCell (Below.setCell (Below.setCell hk9a (p := ⟨w.heap.size + 1, 0, none⟩) (by simp) _) (p := ⟨w.heap.size + 1, 1, none⟩) (by simp) _) (p := ⟨w.heap.size + 1, 2, none⟩) (by simp) _) (p := ⟨w.heap.size + 1, 3, none⟩) (by simp) _) (p := ⟨w.heap.size + 1, 4, none⟩) (by simp) _) (p := ⟨w.heap.size + 1, 5, none⟩) (by simp) _) (p := ⟨w.heap.size + 1, 6, none⟩) (by simp) _) (p := ⟨w.heap.size + 1, 7, none⟩) (by simp) _) (p := ⟨w.heap.size + 1, 8, none⟩) (by simp) _) (p := ⟨w.heap.size + 1, 9, none⟩) (by simp) _) (p := ⟨w.heap.size + 1, 10, none⟩) (by simp) _) (p := ⟨w.heap.size + 1, 11, none⟩) (by simp) _) (p := ⟨w.heap.size + 1, 12, none⟩) (by simp) _)
    have hc9 : Chg (fun q => q = w.heap.size + 1) w4 (((((((((((((w4.setCell ⟨w.heap.size + 1, 0, none⟩ (.int .i64 (1))).setCell ⟨w.heap.size + 1, 1, none⟩ (.int .i64 (1))).setCell ⟨w.heap.size + 1, 2, none⟩ (.slice (some ad) 4 tc)).setCell ⟨w.heap.size + 1, 3, none⟩ (.int .i64 (0))).setCell ⟨w.heap.size + 1, 4, none⟩ (.int .i64 (0))).setCell ⟨w.heap.size + 1, 5, none⟩ (.int .i64 (yk))).setCell ⟨w.heap.size + 1, 6, none⟩ (.int .i64 (1))).setCell ⟨w.heap.size + 1, 7, none⟩ (.int .i64 (5))).setCell ⟨w.heap.size + 1, 8, none⟩ (.slice yo yn yc)).setCell ⟨w.heap.size + 1, 9, none⟩ (.int .u32 (0))).setCell ⟨w.heap.size + 1, 10, none⟩ (.int .u64 (0))).setCell ⟨w.heap.size + 1, 11, none⟩ (.int .u32 (0))).setCell ⟨w.heap.size + 1, 12, none⟩ (.int .i64 (yt))) := ((((((((((((((Chg.refl (fun q => q = w.heap.size + 1) w4).setCell ⟨w.heap.size + 1, 0, none⟩ (.int .i64 (1)) (fun _ => rfl)).setCell ⟨w.heap.size + 1, 1, none⟩ (.int .i64 (1)) (fun _ => rfl)).setCell ⟨w.heap.size + 1, 2, none⟩ (.slice (some ad) 4 tc) (fun _ => rfl)).setCell ⟨w.heap.size + 1, 3, none⟩ (.int .i64 (0)) (fun _ => rfl)).setCell ⟨w.heap.size + 1, 4, none⟩ (.int .i64 (0)) (fun _ => rfl)).setCell ⟨w.heap.size + 1, 5, none⟩ (.int .i64 (yk)) (fun _ => rfl)).setCell ⟨w.heap.size + 1, 6, none⟩ (.int .i64 (1)) (fun _ => rfl)).setCell ⟨w.heap.size + 1, 7, none⟩ (.int .i64 (5)) (fun _ => rfl)).setCell ⟨w.heap.size + 1, 8, none⟩ (.slice yo yn yc) (fun _ => rfl)).setCell ⟨w.heap.size + 1, 9, none⟩ (.int .u32 (0)) (fun _ => rfl)).setCell ⟨w.heap.size + 1, 10, none⟩ (.int .u64 (0)) (fun _ => rfl)).setCell ⟨w.heap.size + 1, 11, none⟩ (.int .u32 (0)) (fun _ => rfl)).setCell ⟨w.heap.size + 1, 12, none⟩ (.int .i64 (yt)) (fun _ => rfl))
    generalize (((((((((((((w4.setCell ⟨w.heap.size + 1, 0, none⟩ (.int .i64 (1))).setCell ⟨w.heap.size + 1, 1, none⟩ (.int .i64 (1))).setCell ⟨w.heap.size + 1, 2, none⟩ (.slice (some ad) 4 tc)).setCell ⟨w.heap.size + 1, 3, none⟩ (.int .i64 (0))).setCell ⟨w.heap.size + 1, 4, none⟩ (.int .i64 (0))).setCell ⟨w.heap.size + 1, 5, none⟩ (.int .i64 (yk))).setCell ⟨w.heap.size + 1, 6, none⟩ (.int .i64 (1))).setCell ⟨w.heap.size + 1, 7, none⟩ (.int .i64 (5))).setCell ⟨w.heap.size + 1, 8, none⟩ (.slice yo yn yc)).setCell ⟨w.heap.size + 1, 9, none⟩ (.int .u32 (0))).setCell ⟨w.heap.size + 1, 10, none⟩ (.int .u64 (0))).setCell ⟨w.heap.size + 1, 11, none⟩ (.int .u32 (0))).setCell ⟨w.heap.size + 1, 12, none⟩ (.int .i64 (yt))) = w9 at *
    clear c0 f0 c1 f1 c2 f2 c3 f3 c4 f4 c5 f5 c6 f6 c7 f7 c8 f8 c9 f9 c10 f10 c11 f11 c12 f12
    have k0 := hr9.cell 0
    have k1 := hr9.cell 1
    have k2 := hr9.cell 2
    have k3 := hr9.cell 3
    have k4 := hr9.cell 4
    have k5 := hr9.cell 5
    have k6 := hr9.cell 6
    have k7 := hr9.cell 7
    have k8 := hr9.cell 8
    have k9 := hr9.cell 9
    have k10 := hr9.cell 10
    have k11 := hr9.cell 11
    have k12 := hr9.cell 12
    simp only [List.getElem?_cons_zero, List.getElem?_cons_succ] at k0 k1 k2 k3 k4 k5 k6 k7 k8 k9 k10 k11 k12
    exact bodyPost_ret (v := .agg ([.int .i64 (1), .int .i64 (1), .slice (some ad) 4 tc, .int .i64 (0), .int .i64 (0), .int .i64 (yk), .int .i64 (1), .int .i64 (5), .slice yo yn yc, .int .u32 (0), .int .u64 (0), .int .u32 (0), .int .i64 (yt)] : List Value).toArray) (by simp [results, Tryz.results47, go_sem, k0, k1, k2, k3, k4, k5, k6, k7, k8, k9, k10, k11, k12]) rfl ⟨_, _, rfl, ⟨by show (0 : Int) ≤ 0 ∧ (0 : Int) < 4294967296; omega, ⟨Nat.zero_le _, by simp; omega⟩, 1, yk, 1, 5, 0, 0, 0, yt, rfl, (by obtain ⟨m, hm, hr⟩ := HT.out _ hk9; rw [show m = 4 from by omega] at hr; exact hr), ⟨yo, yn, yc, rfl⟩, fun _ => hx9.chg hc9 (fun _ g e hq => by have := hownk g e; omega)⟩, hk9, fun g e => by have := hownk g e; omega⟩

end Go.Proofs.YtfbcadknimfhjaaGreat
