/- The document's packets: a step that is a stack's: walked. -/
import Derived.Test.YtfbcadknimfhjaaGreatPkRef11c
namespace Go.Proofs.YtfbcadknimfhjaaGreat
open Go.RowKit

set_option maxRecDepth 8000 in
set_option maxHeartbeats 3200000 in
theorem st11_spare_busy {c : Cfg} {mem : List Int} {s : PM} {a l v tv xvl : Value} (w : World) (hg : Good c) (ha : MapV w c a) (h : R11 w v (linksL c) tv xvl s) (hm : MemV w l mem) (hall : ∀ x ∈ mem, U x) (hlen : mem.length ≤ 20000) (hp : s.pc = .spare) (hf : (smStep (lkL (linksL c)) mem s.x).2.pc.fin = false) :
    Calls Tryz.prog 48 #[a, l, v] w fun e w' => ∃ l' v' xvl', e = .returned (.tuple #[l', v']) ∧ MemV w' l' (pmStep c mem s).1 ∧ R11 w' v' (linksL c) tv xvl' (pmStep c mem s).2 ∧ Kept w w' ∧ (∀ g, l'.ownBlock = some g → l' = l ∨ w.heap.size ≤ g) ∧ XKeep w.heap.size s (pmStep c mem s).2 xvl xvl' := by
  obtain ⟨pc, tasks, j, p, x⟩ := s
  simp only at hp
  subst hp
  obtain ⟨⟨hp0, hp1⟩, ⟨hj0, hj1⟩, kind, xk, xpc, xhd, xi, xh, xl, xt, rfl, htv, ⟨xo, xn, xc, rfl⟩, hx⟩ := h
  simp only [pcN11] at hp0 hp1 hj0 hj1 htv hx ⊢
  obtain ⟨to, tc, rfl⟩ := htv.form
  obtain ⟨tn, htn⟩ : ∃ tn, tn = (tasks.map (Value.int .u64)).length := ⟨_, rfl⟩
  rw [← htn] at htv ⊢
  have HTN : Hid (tn = tasks.length) := by rw [htn]; simp [Hid]
  clear htn
  obtain ⟨va, rfl, hT⟩ := ha
  obtain ⟨ao, acap, rfl, _⟩ := hT.ex
  have HV : Hid (∀ W, Kept w W → MapV W c (.agg #[.slice ao (allT c).length acap, .int .i64 (manyI c)])) := fun W k => ⟨_, rfl, hT.kept k⟩
  clear hT
  generalize (allT c).length = ln at *
  obtain ⟨mo, mc, hmv⟩ := hm.form
  obtain ⟨ml, hml⟩ : ∃ ml, ml = (mem.map (Value.int .u64)).length := ⟨_, rfl⟩
  rw [← hml] at hmv
  subst hmv
  clear hml
  have HM : Hid (∀ W, Kept w W → MemV W (.slice mo ml mc) mem) := fun W k => hm.kept k
  have HT : Hid (∀ W, Kept w W → Reads W (.slice to tn tc) (tasks.map (Value.int .u64))) := fun W k => htv.kept k
  have HA : Hid (∀ x ∈ mem, U x) := hall
  clear hm htv hall
  simp only at hf
  unfold pmStep pmSpare
  simp only []
  rw [← lkL_packs hg]
  have hx := hx (by simp)
  have hxr := hx.row
  have HXB : Hid (0 < (linksL c).length → ∀ g, (Value.slice xo xn xc).ownBlock = some g → g < w.heap.size) := fun hp g e => hxr.blockLt (by simpa using hp) g e
  have ST : ∀ W, Kept w W → _ := fun W k => step9_ref W (hx.kept k) (HM.out W k) HA.out hlen
  have HL := smStep_len9 (lkL (linksL c)) mem x
  generalize smStep (lkL (linksL c)) mem x = rr at ST HL hf ⊢
  obtain ⟨mem2, pc2, hd2, it2, h2, lk2⟩ := rr
  simp only at ST HL hf ⊢
  have HLEN : Hid (mem2.length = mem.length) := HL
  clear HL
  simp only [hf, Bool.false_eq_true, ↓reduceIte]
  obtain ⟨q0, q1⟩ := pcN_ne hf
  obtain ⟨pn, hpn⟩ : ∃ pn, pcN pc2 = pn := ⟨_, rfl⟩
  have HPN : Hid (pcN pc2 = pn) := hpn
  rw [hpn] at q0 q1
  clear hpn hf
  clear hg hx hxr
  have hA0 := Blk.new w 35 [.slice ao ln acap, .int .i64 (manyI c)]
  have hk0 : Kept w (w.alloc (.cells ([.slice ao ln acap, .int .i64 (manyI c)] : List Value).toArray 35)) := (Below.refl _ _).alloc (Nat.le_refl _) _
  have z0 : (w.alloc (.cells ([.slice ao ln acap, .int .i64 (manyI c)] : List Value).toArray 35)).heap.size = w.heap.size + 1 := by simp
  go_enter Tryz.func48, Tryz.ntmps48
  go_wp2_with fail
  generalize w.alloc (.cells ([.slice ao ln acap, .int .i64 (manyI c)] : List Value).toArray 35) = w1 at *
  have hb0 := Blk.new w1 57 [.int .i64 (kind), .int .i64 (1), .slice to tn tc, .int .i64 (j), .int .i64 (p), .int .i64 (xk), .int .i64 (xpc), .int .i64 (xhd), .slice xo xn xc, .int .u32 (xi), .int .u64 (xh), .int .u32 (xl), .int .i64 (xt)]
  rw [z0] at hb0
  have hk1 : Kept w1 (w1.alloc (.cells ([.int .i64 (kind), .int .i64 (1), .slice to tn tc, .int .i64 (j), .int .i64 (p), .int .i64 (xk), .int .i64 (xpc), .int .i64 (xhd), .slice xo xn xc, .int .u32 (xi), .int .u64 (xh), .int .u32 (xl), .int .i64 (xt)] : List Value).toArray 57)) := (Below.refl _ _).alloc (Nat.le_refl _) _
  have z1 : (w1.alloc (.cells ([.int .i64 (kind), .int .i64 (1), .slice to tn tc, .int .i64 (j), .int .i64 (p), .int .i64 (xk), .int .i64 (xpc), .int .i64 (xhd), .slice xo xn xc, .int .u32 (xi), .int .u64 (xh), .int .u32 (xl), .int .i64 (xt)] : List Value).toArray 57)).heap.size = w.heap.size + 2 := by simp [z0]
  generalize w1.alloc (.cells ([.int .i64 (kind), .int .i64 (1), .slice to tn tc, .int .i64 (j), .int .i64 (p), .int .i64 (xk), .int .i64 (xpc), .int .i64 (xhd), .slice xo xn xc, .int .u32 (xi), .int .u64 (xh), .int .u32 (xl), .int .i64 (xt)] : List Value).toArray 57) = w2 at *
  have hr0 := Blk.new w2 57 [.int .i64 0, .int .i64 0, .slice none 0 0, .int .i64 0, .int .i64 0, .int .i64 0, .int .i64 0, .int .i64 0, .slice none 0 0, .int .u32 0, .int .u64 0, .int .u32 0, .int .i64 0]
  rw [z1] at hr0
  have hk2 : Kept w2 (w2.alloc (.cells ([.int .i64 0, .int .i64 0, .slice none 0 0, .int .i64 0, .int .i64 0, .int .i64 0, .int .i64 0, .int .i64 0, .slice none 0 0, .int .u32 0, .int .u64 0, .int .u32 0, .int .i64 0] : List Value).toArray 57)) := (Below.refl _ _).alloc (Nat.le_refl _) _
  have z2 : (w2.alloc (.cells ([.int .i64 0, .int .i64 0, .slice none 0 0, .int .i64 0, .int .i64 0, .int .i64 0, .int .i64 0, .int .i64 0, .slice none 0 0, .int .u32 0, .int .u64 0, .int .u32 0, .int .i64 0] : List Value).toArray 57)).heap.size = w.heap.size + 3 := by simp [z1]
  generalize w2.alloc (.cells ([.int .i64 0, .int .i64 0, .slice none 0 0, .int .i64 0, .int .i64 0, .int .i64 0, .int .i64 0, .int .i64 0, .slice none 0 0, .int .u32 0, .int .u64 0, .int .u32 0, .int .i64 0] : List Value).toArray 57) = w3 at *
  have hA := hk2.blk (hk1.blk hA0)
  have hb := hk2.blk hb0
  have hr := hr0
  have hk : Kept w w3 := (hk0.trans' hk1).trans' hk2
  clear hA0 hb0 hr0 hk0 hk1 hk2 z0 z1
  have b0 := hb.cell 0
  have b1 := hb.cell 1
  have b2 := hb.cell 2
  have b3 := hb.cell 3
  have b4 := hb.cell 4
  have b5 := hb.cell 5
  have b6 := hb.cell 6
  have b7 := hb.cell 7
  have b8 := hb.cell 8
  have b9 := hb.cell 9
  have b10 := hb.cell 10
  have b11 := hb.cell 11
  have b12 := hb.cell 12
  simp only [List.getElem?_cons_zero, List.getElem?_cons_succ] at b0 b1 b2 b3 b4 b5 b6 b7 b8 b9 b10 b11 b12
  refine (ST w3 hk).mono ?_; rintro e w4 ⟨l', v2, rfl, hl', hr2, hk4, hown⟩
  obtain ⟨yk, yt, rfl⟩ := hr2.parts
  have hii := hr2.item
  simp only at hii
  simp only [HPN.out] at hr2 ⊢
  obtain ⟨hii0, hii1⟩ := hii
  clear ST b0 b1 b2 b3 b4 b5 b6 b7 b8 b9 b10 b11 b12 
  have hy := Blk.new w4 55 [.int .i64 yk, .int .i64 pn, .int .i64 hd2, .slice xo xn xc, .int .u32 it2, .int .u64 h2, .int .u32 lk2, .int .i64 yt]
  replace hb := (hk4.blk hb).alloc (.cells ([.int .i64 yk, .int .i64 pn, .int .i64 hd2, .slice xo xn xc, .int .u32 it2, .int .u64 h2, .int .u32 lk2, .int .i64 yt] : List Value).toArray 55)
  replace hA := (hk4.blk hA).alloc (.cells ([.int .i64 yk, .int .i64 pn, .int .i64 hd2, .slice xo xn xc, .int .u32 it2, .int .u64 h2, .int .u32 lk2, .int .i64 yt] : List Value).toArray 55)
  replace hr := (hk4.blk hr).alloc (.cells ([.int .i64 yk, .int .i64 pn, .int .i64 hd2, .slice xo xn xc, .int .u32 it2, .int .u64 h2, .int .u32 lk2, .int .i64 yt] : List Value).toArray 55)
  have hka : Kept w4 (w4.alloc (.cells ([.int .i64 yk, .int .i64 pn, .int .i64 hd2, .slice xo xn xc, .int .u32 it2, .int .u64 h2, .int .u32 lk2, .int .i64 yt] : List Value).toArray 55)) := (Below.refl _ _).alloc (Nat.le_refl _) _
  have hl4 := Row.kept hl' hka
  have hr4 := hr2.kept hka
  have z4 : w.heap.size + 3 ≤ w4.heap.size := by have := hk4.size; omega
  replace hk := (hk.trans' hk4).trans' hka
  rw [z2] at hown
  have n1 : w4.heap.size ≠ w.heap.size + 1 := by omega
  have n2 : w.heap.size + 1 ≠ w4.heap.size := by omega
  have yit : IntKind.i64.wrap it2 = it2 := IntWalk.i64_in _ (by omega)
  clear hl' hr2 hk4 hka
  have b0 := hb.cell 0
  have b1 := hb.cell 1
  have b2 := hb.cell 2
  have b3 := hb.cell 3
  have b4 := hb.cell 4
  have b5 := hb.cell 5
  have b6 := hb.cell 6
  have b7 := hb.cell 7
  have b8 := hb.cell 8
  have b9 := hb.cell 9
  have b10 := hb.cell 10
  have b11 := hb.cell 11
  have b12 := hb.cell 12
  have fb1 := hb.free 1
  have fb2 := hb.free 2
  have fb3 := hb.free 3
  have fb4 := hb.free 4
  have fb5 := hb.free 5
  have fb6 := hb.free 6
  have fb7 := hb.free 7
  have fb8 := hb.free 8
  have fb9 := hb.free 9
  have fb10 := hb.free 10
  have fb11 := hb.free 11
  have fb12 := hb.free 12
  simp only [List.getElem?_cons_zero, List.getElem?_cons_succ] at b0 b1 b2 b3 b4 b5 b6 b7 b8 b9 b10 b11 b12
  have y0 := hy.cell 0
  have y1 := hy.cell 1
  have y2 := hy.cell 2
  have y3 := hy.cell 3
  have y4 := hy.cell 4
  have y5 := hy.cell 5
  have y6 := hy.cell 6
  have y7 := hy.cell 7
  simp only [List.getElem?_cons_zero, List.getElem?_cons_succ] at y0 y1 y2 y3 y4 y5 y6 y7
  go_wp2_with fail
  clear hy b0 b1 b2 b3 b4 b5 b6 b7 b8 b9 b10 b11 b12 fb1 fb2 fb3 fb4 fb5 fb6 fb7 fb8 fb9 fb10 fb11 fb12 y0 y1 y2 y3 y4 y5 y6 y7 
  have hcL : Chg (fun q => q = w.heap.size + 1 ∨ q = w.heap.size + 2) (w4.alloc (.cells ([.int .i64 yk, .int .i64 pn, .int .i64 hd2, .slice xo xn xc, .int .u32 it2, .int .u64 h2, .int .u32 lk2, .int .i64 yt] : List Value).toArray 55)) (w4.alloc (.cells ([.int .i64 yk, .int .i64 pn, .int .i64 hd2, .slice xo xn xc, .int .u32 it2, .int .u64 h2, .int .u32 lk2, .int .i64 yt] : List Value).toArray 55)) := Chg.refl _ _
  have hb5 : Blk (((((((((w4.alloc (.cells ([.int .i64 yk, .int .i64 pn, .int .i64 hd2, .slice xo xn xc, .int .u32 it2, .int .u64 h2, .int .u32 lk2, .int .i64 yt] : List Value).toArray 55)).setCell ⟨w.heap.size + 1, 5, none⟩ (.int .i64 (yk))).setCell ⟨w.heap.size + 1, 6, none⟩ (.int .i64 (pn))).setCell ⟨w.heap.size + 1, 7, none⟩ (.int .i64 (hd2))).setCell ⟨w.heap.size + 1, 8, none⟩ (.slice xo xn xc)).setCell ⟨w.heap.size + 1, 9, none⟩ (.int .u32 (it2))).setCell ⟨w.heap.size + 1, 10, none⟩ (.int .u64 (h2))).setCell ⟨w.heap.size + 1, 11, none⟩ (.int .u32 (lk2))).setCell ⟨w.heap.size + 1, 12, none⟩ (.int .i64 (yt))) (w.heap.size + 1) 57 [.int .i64 (kind), .int .i64 (1), .slice to tn tc, .int .i64 (j), .int .i64 (p), .int .i64 (yk), .int .i64 (pn), .int .i64 (hd2), .slice xo xn xc, .int .u32 (it2), .int .u64 (h2), .int .u32 (lk2), .int .i64 (yt)] := ((((((((hb.set' 5 (.int .i64 (yk)) rfl).set' 6 (.int .i64 (pn)) rfl).set' 7 (.int .i64 (hd2)) rfl).set' 8 (.slice xo xn xc) rfl).set' 9 (.int .u32 (it2)) rfl).set' 10 (.int .u64 (h2)) rfl).set' 11 (.int .u32 (lk2)) rfl).set' 12 (.int .i64 (yt)) rfl)
  have hcx := (((((((((Chg.refl (fun q => q = w.heap.size + 1) (w4.alloc (.cells ([.int .i64 yk, .int .i64 pn, .int .i64 hd2, .slice xo xn xc, .int .u32 it2, .int .u64 h2, .int .u32 lk2, .int .i64 yt] : List Value).toArray 55))).setCell ⟨w.heap.size + 1, 5, none⟩ (.int .i64 (yk)) (fun _ => rfl)).setCell ⟨w.heap.size + 1, 6, none⟩ (.int .i64 (pn)) (fun _ => rfl)).setCell ⟨w.heap.size + 1, 7, none⟩ (.int .i64 (hd2)) (fun _ => rfl)).setCell ⟨w.heap.size + 1, 8, none⟩ (.slice xo xn xc) (fun _ => rfl)).setCell ⟨w.heap.size + 1, 9, none⟩ (.int .u32 (it2)) (fun _ => rfl)).setCell ⟨w.heap.size + 1, 10, none⟩ (.int .u64 (h2)) (fun _ => rfl)).setCell ⟨w.heap.size + 1, 11, none⟩ (.int .u32 (lk2)) (fun _ => rfl)).setCell ⟨w.heap.size + 1, 12, none⟩ (.int .i64 (yt)) (fun _ => rfl))
  replace hr := hcx.blk hr (by simp)
  replace hA := hcx.blk hA (by simp)
  replace hcL := hcL.trans (hcx.mono (fun q _ e => .inl e))
  replace hk := Below.trans hk (hcx.toBelow (B := w.heap.size) (by have := hk.size; omega) (fun q hq e => by omega))
  generalize (((((((((w4.alloc (.cells ([.int .i64 yk, .int .i64 pn, .int .i64 hd2, .slice xo xn xc, .int .u32 it2, .int .u64 h2, .int .u32 lk2, .int .i64 yt] : List Value).toArray 55)).setCell ⟨w.heap.size + 1, 5, none⟩ (.int .i64 (yk))).setCell ⟨w.heap.size + 1, 6, none⟩ (.int .i64 (pn))).setCell ⟨w.heap.size + 1, 7, none⟩ (.int .i64 (hd2))).setCell ⟨w.heap.size + 1, 8, none⟩ (.slice xo xn xc)).setCell ⟨w.heap.size + 1, 9, none⟩ (.int .u32 (it2))).setCell ⟨w.heap.size + 1, 10, none⟩ (.int .u64 (h2))).setCell ⟨w.heap.size + 1, 11, none⟩ (.int .u32 (lk2))).setCell ⟨w.heap.size + 1, 12, none⟩ (.int .i64 (yt))) = w5 at *
  clear hcx hb
  have hb := hb5
  clear hb5
  have b0 := hb.cell 0
  have b1 := hb.cell 1
  have b2 := hb.cell 2
  have b3 := hb.cell 3
  have b4 := hb.cell 4
  have b5 := hb.cell 5
  have b6 := hb.cell 6
  have b7 := hb.cell 7
  have b8 := hb.cell 8
  have b9 := hb.cell 9
  have b10 := hb.cell 10
  have b11 := hb.cell 11
  have b12 := hb.cell 12
  simp only [List.getElem?_cons_zero, List.getElem?_cons_succ] at b0 b1 b2 b3 b4 b5 b6 b7 b8 b9 b10 b11 b12
  have r0 := hr.cell 0
  have r1 := hr.cell 1
  have r2 := hr.cell 2
  have r3 := hr.cell 3
  have r4 := hr.cell 4
  have r5 := hr.cell 5
  have r6 := hr.cell 6
  have r7 := hr.cell 7
  have r8 := hr.cell 8
  have r9 := hr.cell 9
  have r10 := hr.cell 10
  have r11 := hr.cell 11
  have r12 := hr.cell 12
  have fr0 := hr.free 0
  have fr1 := hr.free 1
  have fr2 := hr.free 2
  have fr3 := hr.free 3
  have fr4 := hr.free 4
  have fr5 := hr.free 5
  have fr6 := hr.free 6
  have fr7 := hr.free 7
  have fr8 := hr.free 8
  have fr9 := hr.free 9
  have fr10 := hr.free 10
  have fr11 := hr.free 11
  have fr12 := hr.free 12
  simp only [List.getElem?_cons_zero, List.getElem?_cons_succ] at r0 r1 r2 r3 r4 r5 r6 r7 r8 r9 r10 r11 r12
  have hbD := hb.drew
  have hrD := hr.drew
  have d0 := hbD.cell 0
  have d1 := hbD.cell 1
  have d2 := hbD.cell 2
  have d3 := hbD.cell 3
  have d4 := hbD.cell 4
  have d5 := hbD.cell 5
  have d6 := hbD.cell 6
  have d7 := hbD.cell 7
  have d8 := hbD.cell 8
  have d9 := hbD.cell 9
  have d10 := hbD.cell 10
  have d11 := hbD.cell 11
  have d12 := hbD.cell 12
  simp only [List.getElem?_cons_zero, List.getElem?_cons_succ] at d0 d1 d2 d3 d4 d5 d6 d7 d8 d9 d10 d11 d12
  have s0 := hrD.cell 0
  have s1 := hrD.cell 1
  have s2 := hrD.cell 2
  have s3 := hrD.cell 3
  have s4 := hrD.cell 4
  have s5 := hrD.cell 5
  have s6 := hrD.cell 6
  have s7 := hrD.cell 7
  have s8 := hrD.cell 8
  have s9 := hrD.cell 9
  have s10 := hrD.cell 10
  have s11 := hrD.cell 11
  have s12 := hrD.cell 12
  have fs0 := hrD.free 0
  have fs1 := hrD.free 1
  have fs2 := hrD.free 2
  have fs3 := hrD.free 3
  have fs4 := hrD.free 4
  have fs5 := hrD.free 5
  have fs6 := hrD.free 6
  have fs7 := hrD.free 7
  have fs8 := hrD.free 8
  have fs9 := hrD.free 9
  have fs10 := hrD.free 10
  have fs11 := hrD.free 11
  have fs12 := hrD.free 12
  simp only [List.getElem?_cons_zero, List.getElem?_cons_succ] at s0 s1 s2 s3 s4 s5 s6 s7 s8 s9 s10 s11 s12
  go_wp2_with fail
  go_region
  have hr9 : Blk ((((((((((((((w5.setCell ⟨w.heap.size + 2, 0, none⟩ (.int .i64 (kind))).setCell ⟨w.heap.size + 2, 1, none⟩ (.int .i64 (1))).setCell ⟨w.heap.size + 2, 2, none⟩ (.slice to tn tc)).setCell ⟨w.heap.size + 2, 3, none⟩ (.int .i64 (j))).setCell ⟨w.heap.size + 2, 4, none⟩ (.int .i64 (p))).setCell ⟨w.heap.size + 2, 5, none⟩ (.int .i64 (yk))).setCell ⟨w.heap.size + 2, 6, none⟩ (.int .i64 (pn))).setCell ⟨w.heap.size + 2, 7, none⟩ (.int .i64 (hd2))).setCell ⟨w.heap.size + 2, 8, none⟩ (.slice xo xn xc)).setCell ⟨w.heap.size + 2, 9, none⟩ (.int .u32 (it2))).setCell ⟨w.heap.size + 2, 10, none⟩ (.int .u64 (h2))).setCell ⟨w.heap.size + 2, 11, none⟩ (.int .u32 (lk2))).setCell ⟨w.heap.size + 2, 12, none⟩ (.int .i64 (yt)))).drew (w.heap.size + 2) 57 [.int .i64 (kind), .int .i64 (1), .slice to tn tc, .int .i64 (j), .int .i64 (p), .int .i64 (yk), .int .i64 (pn), .int .i64 (hd2), .slice xo xn xc, .int .u32 (it2), .int .u64 (h2), .int .u32 (lk2), .int .i64 (yt)] := ((((((((((((((hr.set' 0 (.int .i64 (kind)) rfl).set' 1 (.int .i64 (1)) rfl).set' 2 (.slice to tn tc) rfl).set' 3 (.int .i64 (j)) rfl).set' 4 (.int .i64 (p)) rfl).set' 5 (.int .i64 (yk)) rfl).set' 6 (.int .i64 (pn)) rfl).set' 7 (.int .i64 (hd2)) rfl).set' 8 (.slice xo xn xc) rfl).set' 9 (.int .u32 (it2)) rfl).set' 10 (.int .u64 (h2)) rfl).set' 11 (.int .u32 (lk2)) rfl).set' 12 (.int .i64 (yt)) rfl)).drew
  have hk9 : Kept w ((((((((((((((w5.setCell ⟨w.heap.size + 2, 0, none⟩ (.int .i64 (kind))).setCell ⟨w.heap.size + 2, 1, none⟩ (.int .i64 (1))).setCell ⟨w.heap.size + 2, 2, none⟩ (.slice to tn tc)).setCell ⟨w.heap.size + 2, 3, none⟩ (.int .i64 (j))).setCell ⟨w.heap.size + 2, 4, none⟩ (.int .i64 (p))).setCell ⟨w.heap.size + 2, 5, none⟩ (.int .i64 (yk))).setCell ⟨w.heap.size + 2, 6, none⟩ (.int .i64 (pn))).setCell ⟨w.heap.size + 2, 7, none⟩ (.int .i64 (hd2))).setCell ⟨w.heap.size + 2, 8, none⟩ (.slice xo xn xc)).setCell ⟨w.heap.size + 2, 9, none⟩ (.int .u32 (it2))).setCell ⟨w.heap.size + 2, 10, none⟩ (.int .u64 (h2))).setCell ⟨w.heap.size + 2, 11, none⟩ (.int .u32 (lk2))).setCell ⟨w.heap.size + 2, 12, none⟩ (.int .i64 (yt)))).drew := Below.drew (Below.setCell (Below.setCell (Below.setCell (Below.setCell (Below.setCell (Below.setCell (Below.setCell (Below.setCell (Below.setCell (Below.setCell (Below.setCell (Below.setCell (Below.setCell hk (p := ⟨w.heap.size + 2, 0, none⟩) (by simp) _) (p := ⟨w.heap.size + 2, 1, none⟩) (by simp) _) (p := ⟨w.heap.size + 2, 2, none⟩) (by simp) _) (p := ⟨w.heap.size + 2, 3, none⟩) (by simp) _) (p := ⟨w.heap.size + 2, 4, none⟩) (by simp) _) (p := ⟨w.heap.size + 2, 5, none⟩) (by simp) _) (p := ⟨w.heap.size + 2, 6, none⟩) (by simp) _) (p := ⟨w.heap.size + 2, 7, none⟩) (by simp) _) (p := ⟨w.heap.size + 2, 8, none⟩) (by simp) _) (p := ⟨w.heap.size + 2, 9, none⟩) (by simp) _) (p := ⟨w.heap.size + 2, 10, none⟩) (by simp) _) (p := ⟨w.heap.size + 2, 11, none⟩) (by simp) _) (p := ⟨w.heap.size + 2, 12, none⟩) (by simp) _)
  have hc9 : Chg (fun q => q = w.heap.size + 1 ∨ q = w.heap.size + 2) (w4.alloc (.cells ([.int .i64 yk, .int .i64 pn, .int .i64 hd2, .slice xo xn xc, .int .u32 it2, .int .u64 h2, .int .u32 lk2, .int .i64 yt] : List Value).toArray 55)) ((((((((((((((w5.setCell ⟨w.heap.size + 2, 0, none⟩ (.int .i64 (kind))).setCell ⟨w.heap.size + 2, 1, none⟩ (.int .i64 (1))).setCell ⟨w.heap.size + 2, 2, none⟩ (.slice to tn tc)).setCell ⟨w.heap.size + 2, 3, none⟩ (.int .i64 (j))).setCell ⟨w.heap.size + 2, 4, none⟩ (.int .i64 (p))).setCell ⟨w.heap.size + 2, 5, none⟩ (.int .i64 (yk))).setCell ⟨w.heap.size + 2, 6, none⟩ (.int .i64 (pn))).setCell ⟨w.heap.size + 2, 7, none⟩ (.int .i64 (hd2))).setCell ⟨w.heap.size + 2, 8, none⟩ (.slice xo xn xc)).setCell ⟨w.heap.size + 2, 9, none⟩ (.int .u32 (it2))).setCell ⟨w.heap.size + 2, 10, none⟩ (.int .u64 (h2))).setCell ⟨w.heap.size + 2, 11, none⟩ (.int .u32 (lk2))).setCell ⟨w.heap.size + 2, 12, none⟩ (.int .i64 (yt)))).drew := (((((((((((((hcL.setCell ⟨w.heap.size + 2, 0, none⟩ (.int .i64 (kind)) (fun _ => .inr rfl)).setCell ⟨w.heap.size + 2, 1, none⟩ (.int .i64 (1)) (fun _ => .inr rfl)).setCell ⟨w.heap.size + 2, 2, none⟩ (.slice to tn tc) (fun _ => .inr rfl)).setCell ⟨w.heap.size + 2, 3, none⟩ (.int .i64 (j)) (fun _ => .inr rfl)).setCell ⟨w.heap.size + 2, 4, none⟩ (.int .i64 (p)) (fun _ => .inr rfl)).setCell ⟨w.heap.size + 2, 5, none⟩ (.int .i64 (yk)) (fun _ => .inr rfl)).setCell ⟨w.heap.size + 2, 6, none⟩ (.int .i64 (pn)) (fun _ => .inr rfl)).setCell ⟨w.heap.size + 2, 7, none⟩ (.int .i64 (hd2)) (fun _ => .inr rfl)).setCell ⟨w.heap.size + 2, 8, none⟩ (.slice xo xn xc) (fun _ => .inr rfl)).setCell ⟨w.heap.size + 2, 9, none⟩ (.int .u32 (it2)) (fun _ => .inr rfl)).setCell ⟨w.heap.size + 2, 10, none⟩ (.int .u64 (h2)) (fun _ => .inr rfl)).setCell ⟨w.heap.size + 2, 11, none⟩ (.int .u32 (lk2)) (fun _ => .inr rfl)).setCell ⟨w.heap.size + 2, 12, none⟩ (.int .i64 (yt)) (fun _ => .inr rfl)).drew
  generalize ((((((((((((((w5.setCell ⟨w.heap.size + 2, 0, none⟩ (.int .i64 (kind))).setCell ⟨w.heap.size + 2, 1, none⟩ (.int .i64 (1))).setCell ⟨w.heap.size + 2, 2, none⟩ (.slice to tn tc)).setCell ⟨w.heap.size + 2, 3, none⟩ (.int .i64 (j))).setCell ⟨w.heap.size + 2, 4, none⟩ (.int .i64 (p))).setCell ⟨w.heap.size + 2, 5, none⟩ (.int .i64 (yk))).setCell ⟨w.heap.size + 2, 6, none⟩ (.int .i64 (pn))).setCell ⟨w.heap.size + 2, 7, none⟩ (.int .i64 (hd2))).setCell ⟨w.heap.size + 2, 8, none⟩ (.slice xo xn xc)).setCell ⟨w.heap.size + 2, 9, none⟩ (.int .u32 (it2))).setCell ⟨w.heap.size + 2, 10, none⟩ (.int .u64 (h2))).setCell ⟨w.heap.size + 2, 11, none⟩ (.int .u32 (lk2))).setCell ⟨w.heap.size + 2, 12, none⟩ (.int .i64 (yt)))).drew = w9 at *
  clear b0 b1 b2 b3 b4 b5 b6 b7 b8 b9 b10 b11 b12  r0 r1 r2 r3 r4 r5 r6 r7 r8 r9 r10 r11 r12 fr0 fr1 fr2 fr3 fr4 fr5 fr6 fr7 fr8 fr9 fr10 fr11 fr12 d0 d1 d2 d3 d4 d5 d6 d7 d8 d9 d10 d11 d12  s0 s1 s2 s3 s4 s5 s6 s7 s8 s9 s10 s11 s12 fs0 fs1 fs2 fs3 fs4 fs5 fs6 fs7 fs8 fs9 fs10 fs11 fs12
  have k0 := hr9.cell 0
  have k1 := hr9.cell 1
  have k2 := hr9.cell 2
  have k3 := hr9.cell 3
  have k4 := hr9.cell 4
  have k5 := hr9.cell 5
  have k6 := hr9.cell 6
  have k7 := hr9.cell 7
  have k8 := hr9.cell 8
  have k9 := hr9.cell 9
  have k10 := hr9.cell 10
  have k11 := hr9.cell 11
  have k12 := hr9.cell 12
  simp only [List.getElem?_cons_zero, List.getElem?_cons_succ] at k0 k1 k2 k3 k4 k5 k6 k7 k8 k9 k10 k11 k12
  go_wp2_with fail
  exact bodyPost_ret (v := .tuple #[l', .agg ([.int .i64 (kind), .int .i64 (1), .slice to tn tc, .int .i64 (j), .int .i64 (p), .int .i64 (yk), .int .i64 (pn), .int .i64 (hd2), .slice xo xn xc, .int .u32 (it2), .int .u64 (h2), .int .u32 (lk2), .int .i64 (yt)] : List Value).toArray]) (by simp [results, Tryz.results48, go_sem, k0, k1, k2, k3, k4, k5, k6, k7, k8, k9, k10, k11, k12]) rfl ⟨_, _, _, rfl, (HM.out w (Below.refl _ _)).past hl4 (by simp [HLEN.out]) (fun q e => by omega) hown hc9, ⟨⟨hp0, hp1⟩, ⟨hj0, hj1⟩, kind, yk, pn, hd2, it2, h2, lk2, yt, rfl, HT.out _ hk9, ⟨xo, xn, xc, rfl⟩, fun _ => hr4.chg hc9 (fun hp g e hq => by have := HXB.out hp g e; omega)⟩, hk9, fun g e => (hown g e).imp id (fun e => by omega), (by first | (intro e; rcases e with e | e <;> cases e; done) | (intro _ g _; exact .inl ⟨by simp, rfl⟩))⟩

end Go.Proofs.YtfbcadknimfhjaaGreat
