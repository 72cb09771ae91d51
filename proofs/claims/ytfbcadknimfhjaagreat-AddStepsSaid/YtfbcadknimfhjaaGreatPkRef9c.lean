/- The document's stack: any step of its machine; what begins a pop, and a push: walked. -/
import Derived.Test.YtfbcadknimfhjaaGreatPkRef9b
namespace Go.Proofs.YtfbcadknimfhjaaGreat
open Go.RowKit

set_option maxRecDepth 8000 in
set_option maxHeartbeats 1600000 in
theorem st9_done {Ls mem : List Int} {s : SM} {l v vl : Value} (w : World) (h : R9 w v Ls vl s) (hm : MemV w l mem) (hall : ∀ x ∈ mem, U x) (_hlen : mem.length ≤ 20000) (hp : s.pc = .done) :
    Calls Tryz.prog 80 #[l, v] w fun e w' => ∃ l' v', e = .returned (.tuple #[l', v']) ∧ MemV w' l' (smStep (lkL Ls) mem s).1 ∧ R9 w' v' Ls vl (smStep (lkL Ls) mem s).2 ∧ Kept w w' ∧ (∀ g, l'.ownBlock = some g → l' = l ∨ w.heap.size ≤ g) := by
  obtain ⟨pc, hd, item, h, link⟩ := s
  simp only at hp
  subst hp
  obtain ⟨⟨hi0, hi1⟩, hU, ⟨hl0, hl1⟩, kind, tries, rfl, hrow, hpu, hpo⟩ := h
  simp only at hi0 hi1 hU hl0 hl1 hpu hpo ⊢
  skip
  obtain ⟨ao, cap, hvl⟩ := hrow.form
  obtain ⟨ln, hln⟩ : ∃ ln, ln = (Ls.map (Value.int .i64)).length := ⟨_, rfl⟩
  rw [← hln] at hvl
  subst hvl
  clear hln hpu hpo
  obtain ⟨mo, mc, hmv⟩ := hm.form
  obtain ⟨ml, hml⟩ : ∃ ml, ml = (mem.map (Value.int .u64)).length := ⟨_, rfl⟩
  rw [← hml] at hmv
  subst hmv
  clear hml
  have HR : Hid (∀ W, Kept w W → Row W (.slice ao ln cap) (Ls.map (Value.int .i64))) := fun W k => hrow.kept k
  have HM : Hid (∀ W, Kept w W → MemV W (.slice mo ml mc) mem) := fun W k => hm.kept k
  clear hrow hm
  have HA : Hid (∀ x ∈ mem, U x) := hall
  clear hall
  simp only [smStep, pcN]
  have hb0 := Blk.new w 55 [.int .i64 (kind), .int .i64 (0), .int .i64 (hd), .slice ao ln cap, .int .u32 (item), .int .u64 (h), .int .u32 (link), .int .i64 (tries)]
  have hk0 : Kept w (w.alloc (.cells ([.int .i64 (kind), .int .i64 (0), .int .i64 (hd), .slice ao ln cap, .int .u32 (item), .int .u64 (h), .int .u32 (link), .int .i64 (tries)] : List Value).toArray 55)) := (Below.refl _ _).alloc (Nat.le_refl _) _
  have z0 : (w.alloc (.cells ([.int .i64 (kind), .int .i64 (0), .int .i64 (hd), .slice ao ln cap, .int .u32 (item), .int .u64 (h), .int .u32 (link), .int .i64 (tries)] : List Value).toArray 55)).heap.size = w.heap.size + 1 := by simp
  go_enter Tryz.func80, Tryz.ntmps80
  go_wp2_with fail
  generalize w.alloc (.cells ([.int .i64 (kind), .int .i64 (0), .int .i64 (hd), .slice ao ln cap, .int .u32 (item), .int .u64 (h), .int .u32 (link), .int .i64 (tries)] : List Value).toArray 55) = w1 at *
  have hr0 := Blk.new w1 55 [.int .i64 0, .int .i64 0, .int .i64 0, .slice none 0 0, .int .u32 0, .int .u64 0, .int .u32 0, .int .i64 0]
  rw [z0] at hr0
  have hk1 : Kept w1 (w1.alloc (.cells ([.int .i64 0, .int .i64 0, .int .i64 0, .slice none 0 0, .int .u32 0, .int .u64 0, .int .u32 0, .int .i64 0] : List Value).toArray 55)) := (Below.refl _ _).alloc (Nat.le_refl _) _
  have z1 : (w1.alloc (.cells ([.int .i64 0, .int .i64 0, .int .i64 0, .slice none 0 0, .int .u32 0, .int .u64 0, .int .u32 0, .int .i64 0] : List Value).toArray 55)).heap.size = w.heap.size + 2 := by simp [z0]
  generalize w1.alloc (.cells ([.int .i64 0, .int .i64 0, .int .i64 0, .slice none 0 0, .int .u32 0, .int .u64 0, .int .u32 0, .int .i64 0] : List Value).toArray 55) = w2 at *
  have hb := hk1.blk hb0
  have hr := hr0
  have hk : Kept w w2 := hk0.trans' hk1
  clear hb0 hr0 hk0 hk1 z0
  have b0 := hb.cell 0
  have b1 := hb.cell 1
  have b2 := hb.cell 2
  have b3 := hb.cell 3
  have b4 := hb.cell 4
  have b5 := hb.cell 5
  have b6 := hb.cell 6
  have b7 := hb.cell 7
  simp only [List.getElem?_cons_zero, List.getElem?_cons_succ] at b0 b1 b2 b3 b4 b5 b6 b7
  have r0 := hr.cell 0
  have r1 := hr.cell 1
  have r2 := hr.cell 2
  have r3 := hr.cell 3
  have r4 := hr.cell 4
  have r5 := hr.cell 5
  have r6 := hr.cell 6
  have r7 := hr.cell 7
  have fr0 := hr.free 0
  have fr1 := hr.free 1
  have fr2 := hr.free 2
  have fr3 := hr.free 3
  have fr4 := hr.free 4
  have fr5 := hr.free 5
  have fr6 := hr.free 6
  have fr7 := hr.free 7
  simp only [List.getElem?_cons_zero, List.getElem?_cons_succ] at r0 r1 r2 r3 r4 r5 r6 r7
  have hbD := hb.drew
  have hrD := hr.drew
  have d0 := hbD.cell 0
  have d1 := hbD.cell 1
  have d2 := hbD.cell 2
  have d3 := hbD.cell 3
  have d4 := hbD.cell 4
  have d5 := hbD.cell 5
  have d6 := hbD.cell 6
  have d7 := hbD.cell 7
  simp only [List.getElem?_cons_zero, List.getElem?_cons_succ] at d0 d1 d2 d3 d4 d5 d6 d7
  have s0 := hrD.cell 0
  have s1 := hrD.cell 1
  have s2 := hrD.cell 2
  have s3 := hrD.cell 3
  have s4 := hrD.cell 4
  have s5 := hrD.cell 5
  have s6 := hrD.cell 6
  have s7 := hrD.cell 7
  have fs0 := hrD.free 0
  have fs1 := hrD.free 1
  have fs2 := hrD.free 2
  have fs3 := hrD.free 3
  have fs4 := hrD.free 4
  have fs5 := hrD.free 5
  have fs6 := hrD.free 6
  have fs7 := hrD.free 7
  simp only [List.getElem?_cons_zero, List.getElem?_cons_succ] at s0 s1 s2 s3 s4 s5 s6 s7
  go_wp2_with fail
  go_region
  have hr9 : Blk (((((((((w2.setCell ⟨w.heap.size + 1, 0, none⟩ (.int .i64 (kind))).setCell ⟨w.heap.size + 1, 1, none⟩ (.int .i64 (0))).setCell ⟨w.heap.size + 1, 2, none⟩ (.int .i64 (hd))).setCell ⟨w.heap.size + 1, 3, none⟩ (.slice ao ln cap)).setCell ⟨w.heap.size + 1, 4, none⟩ (.int .u32 (item))).setCell ⟨w.heap.size + 1, 5, none⟩ (.int .u64 (h))).setCell ⟨w.heap.size + 1, 6, none⟩ (.int .u32 (link))).setCell ⟨w.heap.size + 1, 7, none⟩ (.int .i64 (tries)))).drew (w.heap.size + 1) 55 [.int .i64 (kind), .int .i64 (0), .int .i64 (hd), .slice ao ln cap, .int .u32 (item), .int .u64 (h), .int .u32 (link), .int .i64 (tries)] := (((((((((hr.set' 0 (.int .i64 (kind)) rfl).set' 1 (.int .i64 (0)) rfl).set' 2 (.int .i64 (hd)) rfl).set' 3 (.slice ao ln cap) rfl).set' 4 (.int .u32 (item)) rfl).set' 5 (.int .u64 (h)) rfl).set' 6 (.int .u32 (link)) rfl).set' 7 (.int .i64 (tries)) rfl)).drew
  have hk9 : Kept w (((((((((w2.setCell ⟨w.heap.size + 1, 0, none⟩ (.int .i64 (kind))).setCell ⟨w.heap.size + 1, 1, none⟩ (.int .i64 (0))).setCell ⟨w.heap.size + 1, 2, none⟩ (.int .i64 (hd))).setCell ⟨w.heap.size + 1, 3, none⟩ (.slice ao ln cap)).setCell ⟨w.heap.size + 1, 4, none⟩ (.int .u32 (item))).setCell ⟨w.heap.size + 1, 5, none⟩ (.int .u64 (h))).setCell ⟨w.heap.size + 1, 6, none⟩ (.int .u32 (link))).setCell ⟨w.heap.size + 1, 7, none⟩ (.int .i64 (tries)))).drew := Below.drew (Below.setCell (Below.setCell (Below.setCell (Below.setCell (Below.setCell (Below.setCell (Below.setCell (Below.setCell hk (p := ⟨w.heap.size + 1, 0, none⟩) (by simp) _) (p := ⟨w.heap.size + 1, 1, none⟩) (by simp) _) (p := ⟨w.heap.size + 1, 2, none⟩) (by simp) _) (p := ⟨w.heap.size + 1, 3, none⟩) (by simp) _) (p := ⟨w.heap.size + 1, 4, none⟩) (by simp) _) (p := ⟨w.heap.size + 1, 5, none⟩) (by simp) _) (p := ⟨w.heap.size + 1, 6, none⟩) (by simp) _) (p := ⟨w.heap.size + 1, 7, none⟩) (by simp) _)
  generalize (((((((((w2.setCell ⟨w.heap.size + 1, 0, none⟩ (.int .i64 (kind))).setCell ⟨w.heap.size + 1, 1, none⟩ (.int .i64 (0))).setCell ⟨w.heap.size + 1, 2, none⟩ (.int .i64 (hd))).setCell ⟨w.heap.size + 1, 3, none⟩ (.slice ao ln cap)).setCell ⟨w.heap.size + 1, 4, none⟩ (.int .u32 (item))).setCell ⟨w.heap.size + 1, 5, none⟩ (.int .u64 (h))).setCell ⟨w.heap.size + 1, 6, none⟩ (.int .u32 (link))).setCell ⟨w.heap.size + 1, 7, none⟩ (.int .i64 (tries)))).drew = w9 at *
  clear b0 b1 b2 b3 b4 b5 b6 b7  r0 r1 r2 r3 r4 r5 r6 r7 fr0 fr1 fr2 fr3 fr4 fr5 fr6 fr7 d0 d1 d2 d3 d4 d5 d6 d7  s0 s1 s2 s3 s4 s5 s6 s7 fs0 fs1 fs2 fs3 fs4 fs5 fs6 fs7
  have k0 := hr9.cell 0
  have k1 := hr9.cell 1
  have k2 := hr9.cell 2
  have k3 := hr9.cell 3
  have k4 := hr9.cell 4
  have k5 := hr9.cell 5
  have k6 := hr9.cell 6
  have k7 := hr9.cell 7
  simp only [List.getElem?_cons_zero, List.getElem?_cons_succ] at k0 k1 k2 k3 k4 k5 k6 k7
  go_wp2_with fail
  exact bodyPost_ret (v := .tuple #[.slice mo ml mc, .agg ([.int .i64 (kind), .int .i64 (0), .int .i64 (hd), .slice ao ln cap, .int .u32 (item), .int .u64 (h), .int .u32 (link), .int .i64 (tries)] : List Value).toArray]) (by simp [results, Tryz.results80, go_sem, k0, k1, k2, k3, k4, k5, k6, k7]) rfl ⟨_, _, rfl, HM.out _ hk9, ⟨⟨hi0, hi1⟩, hU, ⟨hl0, hl1⟩, kind, tries, rfl, HR.out _ hk9, fun e => e.elim, fun e => e.elim⟩, hk9, fun g e => .inl rfl⟩

theorem step9_ref {Ls mem : List Int} {s : SM} {l v vl : Value} (w : World) (h : R9 w v Ls vl s) (hm : MemV w l mem) (hall : ∀ x ∈ mem, U x) (hlen : mem.length ≤ 20000) :
    Calls Tryz.prog 80 #[l, v] w fun e w' => ∃ l' v', e = .returned (.tuple #[l', v']) ∧ MemV w' l' (smStep (lkL Ls) mem s).1 ∧ R9 w' v' Ls vl (smStep (lkL Ls) mem s).2 ∧ Kept w w' ∧ (∀ g, l'.ownBlock = some g → l' = l ∨ w.heap.size ≤ g) := by
  cases hp : s.pc
  · exact st9_done w h hm hall hlen hp
  · exact st9_pushHead w h hm hall hlen hp
  · exact st9_pushLink w h hm hall hlen hp
  · exact st9_pushSwap w h hm hall hlen hp
  · by_cases hz : loI (mget mem s.head) = 0
    · exact st9_popHead0 w h hm hall hlen hp hz
    · exact st9_popHead1 w h hm hall hlen hp hz
  · exact st9_popLink w h hm hall hlen hp
  · exact st9_popSwap w h hm hall hlen hp

theorem pop_ref {Ls : List Int} {vl : Value} (hd : Int) (w : World) (h : Row w vl (Ls.map (Value.int .i64))) :
    Calls Tryz.prog 78 #[.agg #[.int .i64 hd, vl]] w fun e w' => ∃ v', e = .returned v' ∧ R9 w' v' Ls vl ⟨.popHead, hd, 0, 0, 0⟩ ∧ Kept w w' := by
  obtain ⟨ao, cap, hvl⟩ := h.form
  obtain ⟨ln, hln⟩ : ∃ ln, ln = (Ls.map (Value.int .i64)).length := ⟨_, rfl⟩
  rw [← hln] at hvl
  subst hvl
  clear hln
  have hk0 : Kept w (w.alloc (.cells ([.int .i64 hd, .slice ao ln cap] : List Value).toArray 52)) := (Below.refl _ _).alloc (Nat.le_refl _) _
  have z0 : (w.alloc (.cells ([.int .i64 hd, .slice ao ln cap] : List Value).toArray 52)).heap.size = w.heap.size + 1 := by simp
  go_enter Tryz.func78, Tryz.ntmps78
  go_wp2_with fail
  generalize w.alloc (.cells ([.int .i64 hd, .slice ao ln cap] : List Value).toArray 52) = w1 at *
  have hr := Blk.new w1 55 (r9L 2 1 hd (.slice ao ln cap) 0 0 0 0)
  rw [z0] at hr
  have hk1 : Kept w1 (w1.alloc (.cells (r9L 2 1 hd (.slice ao ln cap) 0 0 0 0).toArray 55)) := (Below.refl _ _).alloc (Nat.le_refl _) _
  have hk9 := hk0.trans' hk1
  generalize w1.alloc (.cells (r9L 2 1 hd (.slice ao ln cap) 0 0 0 0).toArray 55) = w9 at *
  have k0 := hr.cell 0
  have k1 := hr.cell 1
  have k2 := hr.cell 2
  have k3 := hr.cell 3
  have k4 := hr.cell 4
  have k5 := hr.cell 5
  have k6 := hr.cell 6
  have k7 := hr.cell 7
  simp only [List.getElem?_cons_zero, List.getElem?_cons_succ] at k0 k1 k2 k3 k4 k5 k6 k7
  exact bodyPost_ret (v := .agg (r9L 2 1 hd (.slice ao ln cap) 0 0 0 0).toArray) (by simp [results, Tryz.results78, go_sem, k0, k1, k2, k3, k4, k5, k6, k7]) rfl ⟨_, rfl, ⟨by show (0 : Int) ≤ 0 ∧ (0 : Int) < 4294967296; omega, by show U 0; unfold U; omega, by show (0 : Int) ≤ 0 ∧ (0 : Int) < 4294967296; omega, 2, 0, rfl, h.kept hk9, fun e => e.elim, fun _ => rfl⟩, hk9⟩

theorem push_ref {Ls : List Int} {vl : Value} (hd p : Int) (w : World) (h : Row w vl (Ls.map (Value.int .i64))) (hp : 0 ≤ p ∧ p < 4294967296) :
    Calls Tryz.prog 81 #[.agg #[.int .i64 hd, vl], .int .i64 p] w fun e w' => ∃ v', e = .returned v' ∧ R9 w' v' Ls vl ⟨.pushHead, hd, p, 0, 0⟩ ∧ Kept w w' := by
  obtain ⟨ao, cap, hvl⟩ := h.form
  obtain ⟨ln, hln⟩ : ∃ ln, ln = (Ls.map (Value.int .i64)).length := ⟨_, rfl⟩
  rw [← hln] at hvl
  subst hvl
  clear hln
  obtain ⟨hp0, hp1⟩ := hp
  have y1 : IntKind.u32.wrap p = p := u32_in hp0 hp1
  have h2 : ¬ p < 0 := by omega
  have h3 : ¬ p > 4294967295 := by omega
  have hk0 : Kept w (w.alloc (.cells ([.int .i64 hd, .slice ao ln cap] : List Value).toArray 52)) := (Below.refl _ _).alloc (Nat.le_refl _) _
  have z0 : (w.alloc (.cells ([.int .i64 hd, .slice ao ln cap] : List Value).toArray 52)).heap.size = w.heap.size + 1 := by simp
  go_enter Tryz.func81, Tryz.ntmps81
  go_wp2_with fail
  generalize w.alloc (.cells ([.int .i64 hd, .slice ao ln cap] : List Value).toArray 52) = w1 at *
  have hr := Blk.new w1 55 (r9L 1 1 hd (.slice ao ln cap) p 0 0 0)
  rw [z0] at hr
  have hk1 : Kept w1 (w1.alloc (.cells (r9L 1 1 hd (.slice ao ln cap) p 0 0 0).toArray 55)) := (Below.refl _ _).alloc (Nat.le_refl _) _
  have hk9 := hk0.trans' hk1
  generalize w1.alloc (.cells (r9L 1 1 hd (.slice ao ln cap) p 0 0 0).toArray 55) = w9 at *
  have k0 := hr.cell 0
  have k1 := hr.cell 1
  have k2 := hr.cell 2
  have k3 := hr.cell 3
  have k4 := hr.cell 4
  have k5 := hr.cell 5
  have k6 := hr.cell 6
  have k7 := hr.cell 7
  simp only [List.getElem?_cons_zero, List.getElem?_cons_succ] at k0 k1 k2 k3 k4 k5 k6 k7
  exact bodyPost_ret (v := .agg (r9L 1 1 hd (.slice ao ln cap) p 0 0 0).toArray) (by simp [results, Tryz.results81, go_sem, k0, k1, k2, k3, k4, k5, k6, k7]) rfl ⟨_, rfl, ⟨⟨hp0, hp1⟩, by show U 0; unfold U; omega, by show (0 : Int) ≤ 0 ∧ (0 : Int) < 4294967296; omega, 1, 0, rfl, h.kept hk9, fun _ => rfl, fun e => e.elim⟩, hk9⟩

end Go.Proofs.YtfbcadknimfhjaaGreat
