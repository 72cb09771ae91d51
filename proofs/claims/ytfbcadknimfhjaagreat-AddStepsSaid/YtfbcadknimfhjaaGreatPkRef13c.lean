/- The document's add: where the deque is full: walked. -/
import Derived.Test.YtfbcadknimfhjaaGreatPkRef13
namespace Go.Proofs.YtfbcadknimfhjaaGreat
open Go.RowKit

set_option maxRecDepth 8000 in
set_option maxHeartbeats 1600000 in
theorem st13_own_full {c : Cfg} {i : Int} {mem : List Int} {s : AM} {a l v tv xv : Value} (w : World) (hg : Good c) (ha : MapV w c a) (h : R13 w v c i tv xv s) (hm : MemV w l mem) (hall : ∀ x ∈ mem, U x) (hlen : mem.length ≤ 20000) (hok : s.pc = .pool → PmOk s.put ∧ s.put.pc.fin = false) (hp : s.pc = .own) (htk : U s.task) (hf : (dqStep (endsOf c i) mem s.dq).2.pc.fin = true) (ho : (dqStep (endsOf c i) mem s.dq).2.out = 2) :
    Calls Tryz.prog 17 #[a, l, v] w fun e w' => Did13 c i mem s l tv xv w w' e := by
  obtain ⟨pc, task, dq, put, sp⟩ := s
  simp only at hp hok hf ho
  subst hp
  have HR0 : Hid (R13 w v c i tv xv ⟨.own, task, dq, put, sp⟩) := h
  obtain ⟨⟨tk, k0, k1, k2, k3, k4, k5, k6, k7, k8, k10, k9, p0, p1, p3, p4, p5, p6, p7, p9, p10, p11, p12, rfl, hown, hpool⟩, ⟨tz, tn, tc, rfl⟩, ⟨xo, xn, xc, rfl⟩, hdq⟩ := h
  simp only [pcA] at hown hpool hdq ⊢
  obtain ⟨va, rfl, hT⟩ := ha
  obtain ⟨ao, acap, rfl, _⟩ := hT.ex
  have HV : Hid (∀ W, Kept w W → MapV W c (.agg #[.slice ao (allT c).length acap, .int .i64 (manyI c)])) := fun W k => ⟨_, rfl, hT.kept k⟩
  clear hT
  generalize (allT c).length = ln at *
  obtain ⟨mo, mc, hmv⟩ := hm.form
  obtain ⟨ml, hml⟩ : ∃ ml, ml = (mem.map (Value.int .u64)).length := ⟨_, rfl⟩
  rw [← hml] at hmv
  subst hmv
  clear hml
  have HM : Hid (∀ W, Kept w W → MemV W (.slice mo ml mc) mem) := fun W k => hm.kept k
  have HA : Hid (∀ x ∈ mem, U x) := hall
  simp only at htk
  obtain ⟨hpu, hnd, hub⟩ := hdq (by first | rfl | trivial)
  obtain ⟨pn, hpn, hpv⟩ := r8V_run (e := endsOf c i) hpu (by cases hx : dq.pc <;> first | rfl | exact absurd hx hnd)
  obtain ⟨htk, hkv⟩ := hown (by first | rfl | trivial)
  subst tk
  replace hkv := hkv.trans hpv
  simp only [List.cons.injEq, Value.int.injEq, Value.bool.injEq, true_and, and_true] at hkv
  obtain ⟨e0, e1, e2, e3, e4, e5, e6, e7, e8, e9, e10⟩ := hkv
  subst k0 k1 k2 k3 k4 k5 k6 k7 k8 k9 k10
  have D := fun W (k : Kept w W) => step8_ref (e := endsOf c i) (d := dq) W (HM.out W k) HA.out hlen (ends_ok hg i) hub hpu hnd
  rw [hpv] at D
  have HST : Hid (amStep c i mem ⟨.own, task, dq, put, sp⟩ = ((dqStep (endsOf c i) mem dq).1, ⟨.pool, task, (dqStep (endsOf c i) mem dq).2, putOne task, true⟩)) := by unfold Hid; simp [amStep, hf, ho]
  have hlm : (dqStep (endsOf c i) mem dq).1.length = mem.length := dqStep_len (endsOf c i) mem dq
  have HPU : Hid ((dqStep (endsOf c i) mem dq).2.push) := dqStep_push hpu
  have HUU : Hid (U (dqStep (endsOf c i) mem dq).2.b ∧ U (dqStep (endsOf c i) mem dq).2.t ∧ U (dqStep (endsOf c i) mem dq).2.wd) := dqStep_U hpu HA.out hub
  have HF : Hid ((dqStep (endsOf c i) mem dq).2.pc.fin = true) := hf
  generalize dqStep (endsOf c i) mem dq = q2 at *
  obtain ⟨mem2, ⟨dpc, xb, xt, xw, xo2, xwn⟩⟩ := q2
  simp only at *
  rw [r8V_fin hf] at D
  rw [ho] at D
  have HOK : Hid True := trivial
  clear hown hpool hdq hm hall hok hub hnd hpu hpv hf ho
  have Hg : Hid (Good c) := hg
  clear hg
  generalize (endsOf c i).tp = en0 at *
  generalize (endsOf c i).bt = en1 at *
  generalize (endsOf c i).en = en2 at *
  generalize (endsOf c i).rm = en3 at *
  generalize dq.b = db at *
  generalize dq.t = dt at *
  generalize dq.wd = dw at *
  have hA0 := Blk.new w 35 [.slice ao ln acap, .int .i64 (manyI c)]
  have hk0 : Kept w (w.alloc (.cells ([.slice ao ln acap, .int .i64 (manyI c)] : List Value).toArray 35)) := (Below.refl _ _).alloc (Nat.le_refl _) _
  have z0 : (w.alloc (.cells ([.slice ao ln acap, .int .i64 (manyI c)] : List Value).toArray 35)).heap.size = w.heap.size + 1 := by simp
  go_enter Tryz.func17, Tryz.ntmps17
  go_wp2_with fail
  generalize w.alloc (.cells ([.slice ao ln acap, .int .i64 (manyI c)] : List Value).toArray 35) = w1 at *
  have hb0 := Blk.new w1 59 [.int .i64 (1), .int .u64 (task), .int .i64 (1), .int .i64 (pn), .int .i64 (en0), .int .i64 (en1), .int .i64 (en2), .int .i64 (en3), .int .u64 (db), .int .u64 (dt), .int .u64 (dw), .bool (false), .int .i64 (0), .int .i64 (p0), .int .i64 (p1), .slice tz tn tc, .int .i64 (p3), .int .i64 (p4), .int .i64 (p5), .int .i64 (p6), .int .i64 (p7), .slice xo xn xc, .int .u32 (p9), .int .u64 (p10), .int .u32 (p11), .int .i64 (p12), .bool (sp)]
  rw [z0] at hb0
  have hk1 : Kept w1 (w1.alloc (.cells ([.int .i64 (1), .int .u64 (task), .int .i64 (1), .int .i64 (pn), .int .i64 (en0), .int .i64 (en1), .int .i64 (en2), .int .i64 (en3), .int .u64 (db), .int .u64 (dt), .int .u64 (dw), .bool (false), .int .i64 (0), .int .i64 (p0), .int .i64 (p1), .slice tz tn tc, .int .i64 (p3), .int .i64 (p4), .int .i64 (p5), .int .i64 (p6), .int .i64 (p7), .slice xo xn xc, .int .u32 (p9), .int .u64 (p10), .int .u32 (p11), .int .i64 (p12), .bool (sp)] : List Value).toArray 59)) := (Below.refl _ _).alloc (Nat.le_refl _) _
  have z1 : (w1.alloc (.cells ([.int .i64 (1), .int .u64 (task), .int .i64 (1), .int .i64 (pn), .int .i64 (en0), .int .i64 (en1), .int .i64 (en2), .int .i64 (en3), .int .u64 (db), .int .u64 (dt), .int .u64 (dw), .bool (false), .int .i64 (0), .int .i64 (p0), .int .i64 (p1), .slice tz tn tc, .int .i64 (p3), .int .i64 (p4), .int .i64 (p5), .int .i64 (p6), .int .i64 (p7), .slice xo xn xc, .int .u32 (p9), .int .u64 (p10), .int .u32 (p11), .int .i64 (p12), .bool (sp)] : List Value).toArray 59)).heap.size = w.heap.size + 2 := by simp [z0]
  generalize w1.alloc (.cells ([.int .i64 (1), .int .u64 (task), .int .i64 (1), .int .i64 (pn), .int .i64 (en0), .int .i64 (en1), .int .i64 (en2), .int .i64 (en3), .int .u64 (db), .int .u64 (dt), .int .u64 (dw), .bool (false), .int .i64 (0), .int .i64 (p0), .int .i64 (p1), .slice tz tn tc, .int .i64 (p3), .int .i64 (p4), .int .i64 (p5), .int .i64 (p6), .int .i64 (p7), .slice xo xn xc, .int .u32 (p9), .int .u64 (p10), .int .u32 (p11), .int .i64 (p12), .bool (sp)] : List Value).toArray 59) = w2 at *
  have hr0 := Blk.new w2 59 [.int .i64 0, .int .u64 0, .int .i64 0, .int .i64 0, .int .i64 0, .int .i64 0, .int .i64 0, .int .i64 0, .int .u64 0, .int .u64 0, .int .u64 0, .bool false, .int .i64 0, .int .i64 0, .int .i64 0, .slice none 0 0, .int .i64 0, .int .i64 0, .int .i64 0, .int .i64 0, .int .i64 0, .slice none 0 0, .int .u32 0, .int .u64 0, .int .u32 0, .int .i64 0, .bool false]
  rw [z1] at hr0
  have hk2 : Kept w2 (w2.alloc (.cells ([.int .i64 0, .int .u64 0, .int .i64 0, .int .i64 0, .int .i64 0, .int .i64 0, .int .i64 0, .int .i64 0, .int .u64 0, .int .u64 0, .int .u64 0, .bool false, .int .i64 0, .int .i64 0, .int .i64 0, .slice none 0 0, .int .i64 0, .int .i64 0, .int .i64 0, .int .i64 0, .int .i64 0, .slice none 0 0, .int .u32 0, .int .u64 0, .int .u32 0, .int .i64 0, .bool false] : List Value).toArray 59)) := (Below.refl _ _).alloc (Nat.le_refl _) _
  have z2 : (w2.alloc (.cells ([.int .i64 0, .int .u64 0, .int .i64 0, .int .i64 0, .int .i64 0, .int .i64 0, .int .i64 0, .int .i64 0, .int .u64 0, .int .u64 0, .int .u64 0, .bool false, .int .i64 0, .int .i64 0, .int .i64 0, .slice none 0 0, .int .i64 0, .int .i64 0, .int .i64 0, .int .i64 0, .int .i64 0, .slice none 0 0, .int .u32 0, .int .u64 0, .int .u32 0, .int .i64 0, .bool false] : List Value).toArray 59)).heap.size = w.heap.size + 3 := by simp [z1]
  generalize w2.alloc (.cells ([.int .i64 0, .int .u64 0, .int .i64 0, .int .i64 0, .int .i64 0, .int .i64 0, .int .i64 0, .int .i64 0, .int .u64 0, .int .u64 0, .int .u64 0, .bool false, .int .i64 0, .int .i64 0, .int .i64 0, .slice none 0 0, .int .i64 0, .int .i64 0, .int .i64 0, .int .i64 0, .int .i64 0, .slice none 0 0, .int .u32 0, .int .u64 0, .int .u32 0, .int .i64 0, .bool false] : List Value).toArray 59) = w3 at *
  have hA := (hk2.blk (hk1.blk hA0))
  have hb := (hk2.blk hb0)
  have hr := hr0
  have hk : Kept w w3 := ((hk0.trans' hk1).trans' hk2)
  clear hA0 hb0 hr0 hk0 hk1 hk2 z0 z1
  have zN : w3.heap.size = w.heap.size + 3 := z2
  clear z2
  have b0 := hb.cell 0
  have b1 := hb.cell 1
  have b2 := hb.cell 2
  have b3 := hb.cell 3
  have b4 := hb.cell 4
  have b5 := hb.cell 5
  have b6 := hb.cell 6
  have b7 := hb.cell 7
  have b8 := hb.cell 8
  have b9 := hb.cell 9
  have b10 := hb.cell 10
  have b11 := hb.cell 11
  have b12 := hb.cell 12
  have b13 := hb.cell 13
  have b14 := hb.cell 14
  have b15 := hb.cell 15
  have b16 := hb.cell 16
  have b17 := hb.cell 17
  have b18 := hb.cell 18
  have b19 := hb.cell 19
  have b20 := hb.cell 20
  have b21 := hb.cell 21
  have b22 := hb.cell 22
  have b23 := hb.cell 23
  have b24 := hb.cell 24
  have b25 := hb.cell 25
  have b26 := hb.cell 26
  simp only [List.getElem?_cons_zero, List.getElem?_cons_succ] at b0 b1 b2 b3 b4 b5 b6 b7 b8 b9 b10 b11 b12 b13 b14 b15 b16 b17 b18 b19 b20 b21 b22 b23 b24 b25 b26
  go_wp2_with fail
  refine (D w3 hk).mono ?_; rintro r w4 ⟨l', rfl, hl', hkc, hown⟩
  rw [zN] at hown
  clear D b0 b1 b2 b3 b4 b5 b6 b7 b8 b9 b10 b11 b12 b13 b14 b15 b16 b17 b18 b19 b20 b21 b22 b23 b24 b25 b26
  replace hA := hkc.blk hA
  replace hb := hkc.blk hb
  replace hr := hkc.blk hr
  replace hk := Kept.trans' hk hkc
  clear hkc
  have hz4 : w.heap.size + 3 ≤ w4.heap.size := hr.lt
  have hq0 := Blk.new w4 49 [.int .i64 (1), .int .i64 (0), .int .i64 (0), .int .i64 (0), .int .i64 (0), .int .i64 (0), .int .u64 (0), .int .u64 (0), .int .u64 (0), .bool (false), .int .i64 (2)]
  have hkc : Kept w4 (w4.alloc (.cells ([.int .i64 (1), .int .i64 (0), .int .i64 (0), .int .i64 (0), .int .i64 (0), .int .i64 (0), .int .u64 (0), .int .u64 (0), .int .u64 (0), .bool (false), .int .i64 (2)] : List Value).toArray 49)) := (Below.refl _ _).alloc (Nat.le_refl _) _
  go_upto_region 3 with fail
  generalize w4.alloc (.cells ([.int .i64 (1), .int .i64 (0), .int .i64 (0), .int .i64 (0), .int .i64 (0), .int .i64 (0), .int .u64 (0), .int .u64 (0), .int .u64 (0), .bool (false), .int .i64 (2)] : List Value).toArray 49) = w5 at *
  have hcL : Chg (fun q => w.heap.size ≤ q ∧ q < w.heap.size + 3) w4 w5 := Chg.ofBelow hkc
  obtain ⟨qb, hqb⟩ : ∃ qb, w4.heap.size = qb := ⟨_, rfl⟩
  rw [hqb] at hq0 ⊢
  replace hA := hkc.blk hA
  replace hb := hkc.blk hb
  replace hr := hkc.blk hr
  replace hk := Kept.trans' hk hkc
  clear hkc
  have q0 := hq0.cell 0
  have q1 := hq0.cell 1
  have q2 := hq0.cell 2
  have q3 := hq0.cell 3
  have q4 := hq0.cell 4
  have q5 := hq0.cell 5
  have q6 := hq0.cell 6
  have q7 := hq0.cell 7
  have q8 := hq0.cell 8
  have q9 := hq0.cell 9
  have q10 := hq0.cell 10
  have fq0 := hq0.free 0
  have fq1 := hq0.free 1
  have fq2 := hq0.free 2
  have fq3 := hq0.free 3
  have fq4 := hq0.free 4
  have fq5 := hq0.free 5
  have fq6 := hq0.free 6
  have fq7 := hq0.free 7
  have fq8 := hq0.free 8
  have fq9 := hq0.free 9
  have fq10 := hq0.free 10
  simp only [List.getElem?_cons_zero, List.getElem?_cons_succ] at q0 q1 q2 q3 q4 q5 q6 q7 q8 q9 q10
  have b0 := hb.cell 0
  have b1 := hb.cell 1
  have b2 := hb.cell 2
  have b3 := hb.cell 3
  have b4 := hb.cell 4
  have b5 := hb.cell 5
  have b6 := hb.cell 6
  have b7 := hb.cell 7
  have b8 := hb.cell 8
  have b9 := hb.cell 9
  have b10 := hb.cell 10
  have b11 := hb.cell 11
  have b12 := hb.cell 12
  have b13 := hb.cell 13
  have b14 := hb.cell 14
  have b15 := hb.cell 15
  have b16 := hb.cell 16
  have b17 := hb.cell 17
  have b18 := hb.cell 18
  have b19 := hb.cell 19
  have b20 := hb.cell 20
  have b21 := hb.cell 21
  have b22 := hb.cell 22
  have b23 := hb.cell 23
  have b24 := hb.cell 24
  have b25 := hb.cell 25
  have b26 := hb.cell 26
  have fb2 := hb.free 2
  have fb3 := hb.free 3
  have fb4 := hb.free 4
  have fb5 := hb.free 5
  have fb6 := hb.free 6
  have fb7 := hb.free 7
  have fb8 := hb.free 8
  have fb9 := hb.free 9
  have fb10 := hb.free 10
  have fb11 := hb.free 11
  have fb12 := hb.free 12
  have fb0 := hb.free 0
  have fb26 := hb.free 26
  simp only [List.getElem?_cons_zero, List.getElem?_cons_succ] at b0 b1 b2 b3 b4 b5 b6 b7 b8 b9 b10 b11 b12 b13 b14 b15 b16 b17 b18 b19 b20 b21 b22 b23 b24 b25 b26
  go_upto_region 9 with fail
  clear b0 b1 b2 b3 b4 b5 b6 b7 b8 b9 b10 b11 b12 b13 b14 b15 b16 b17 b18 b19 b20 b21 b22 b23 b24 b25 b26 fb2 fb3 fb4 fb5 fb6 fb7 fb8 fb9 fb10 fb11 fb12 fb0 fb26 q0 q1 q2 q3 q4 q5 q6 q7 q8 q9 q10 fq0 fq1 fq2 fq3 fq4 fq5 fq6 fq7 fq8 fq9 fq10
  have hbx : Blk ((((((((((((((w5.setCell ⟨w.heap.size + 1, 2, none⟩ (.int .i64 (1))).setCell ⟨w.heap.size + 1, 3, none⟩ (.int .i64 (0))).setCell ⟨w.heap.size + 1, 4, none⟩ (.int .i64 (0))).setCell ⟨w.heap.size + 1, 5, none⟩ (.int .i64 (0))).setCell ⟨w.heap.size + 1, 6, none⟩ (.int .i64 (0))).setCell ⟨w.heap.size + 1, 7, none⟩ (.int .i64 (0))).setCell ⟨w.heap.size + 1, 8, none⟩ (.int .u64 (0))).setCell ⟨w.heap.size + 1, 9, none⟩ (.int .u64 (0))).setCell ⟨w.heap.size + 1, 10, none⟩ (.int .u64 (0))).setCell ⟨w.heap.size + 1, 11, none⟩ (.bool (false))).setCell ⟨w.heap.size + 1, 12, none⟩ (.int .i64 (2))).setCell ⟨w.heap.size + 1, 0, none⟩ (.int .i64 (0))).setCell ⟨w.heap.size + 1, 0, none⟩ (.int .i64 (2))).setCell ⟨w.heap.size + 1, 26, none⟩ (.bool (true))) (w.heap.size + 1) 59 [.int .i64 (2), .int .u64 (task), .int .i64 (1), .int .i64 (0), .int .i64 (0), .int .i64 (0), .int .i64 (0), .int .i64 (0), .int .u64 (0), .int .u64 (0), .int .u64 (0), .bool (false), .int .i64 (2), .int .i64 (p0), .int .i64 (p1), .slice tz tn tc, .int .i64 (p3), .int .i64 (p4), .int .i64 (p5), .int .i64 (p6), .int .i64 (p7), .slice xo xn xc, .int .u32 (p9), .int .u64 (p10), .int .u32 (p11), .int .i64 (p12), .bool (true)] := ((((((((((((((hb.set' 2 (.int .i64 (1)) rfl).set' 3 (.int .i64 (0)) rfl).set' 4 (.int .i64 (0)) rfl).set' 5 (.int .i64 (0)) rfl).set' 6 (.int .i64 (0)) rfl).set' 7 (.int .i64 (0)) rfl).set' 8 (.int .u64 (0)) rfl).set' 9 (.int .u64 (0)) rfl).set' 10 (.int .u64 (0)) rfl).set' 11 (.bool (false)) rfl).set' 12 (.int .i64 (2)) rfl).set' 0 (.int .i64 (0)) rfl).set' 0 (.int .i64 (2)) rfl).set' 26 (.bool (true)) rfl)
  have hcx := (((((((((((((((Chg.refl (fun q => q = w.heap.size + 1) w5).setCell ⟨w.heap.size + 1, 2, none⟩ (.int .i64 (1)) (fun _ => rfl)).setCell ⟨w.heap.size + 1, 3, none⟩ (.int .i64 (0)) (fun _ => rfl)).setCell ⟨w.heap.size + 1, 4, none⟩ (.int .i64 (0)) (fun _ => rfl)).setCell ⟨w.heap.size + 1, 5, none⟩ (.int .i64 (0)) (fun _ => rfl)).setCell ⟨w.heap.size + 1, 6, none⟩ (.int .i64 (0)) (fun _ => rfl)).setCell ⟨w.heap.size + 1, 7, none⟩ (.int .i64 (0)) (fun _ => rfl)).setCell ⟨w.heap.size + 1, 8, none⟩ (.int .u64 (0)) (fun _ => rfl)).setCell ⟨w.heap.size + 1, 9, none⟩ (.int .u64 (0)) (fun _ => rfl)).setCell ⟨w.heap.size + 1, 10, none⟩ (.int .u64 (0)) (fun _ => rfl)).setCell ⟨w.heap.size + 1, 11, none⟩ (.bool (false)) (fun _ => rfl)).setCell ⟨w.heap.size + 1, 12, none⟩ (.int .i64 (2)) (fun _ => rfl)).setCell ⟨w.heap.size + 1, 0, none⟩ (.int .i64 (0)) (fun _ => rfl)).setCell ⟨w.heap.size + 1, 0, none⟩ (.int .i64 (2)) (fun _ => rfl)).setCell ⟨w.heap.size + 1, 26, none⟩ (.bool (true)) (fun _ => rfl))
  replace hA := hcx.blk hA (by show ¬ (_ = _); omega)
  replace hr := hcx.blk hr (by show ¬ (_ = _); omega)
  replace hq0 := hcx.blk hq0 (by show ¬ (_ = _); omega)
  replace hcL := hcL.trans (hcx.mono (fun q _ e => by omega))
  replace hk := hk.trans (hcx.toBelow (B := w.heap.size) (by have := hk.size; omega) (fun q hq e => by omega))
  generalize ((((((((((((((w5.setCell ⟨w.heap.size + 1, 2, none⟩ (.int .i64 (1))).setCell ⟨w.heap.size + 1, 3, none⟩ (.int .i64 (0))).setCell ⟨w.heap.size + 1, 4, none⟩ (.int .i64 (0))).setCell ⟨w.heap.size + 1, 5, none⟩ (.int .i64 (0))).setCell ⟨w.heap.size + 1, 6, none⟩ (.int .i64 (0))).setCell ⟨w.heap.size + 1, 7, none⟩ (.int .i64 (0))).setCell ⟨w.heap.size + 1, 8, none⟩ (.int .u64 (0))).setCell ⟨w.heap.size + 1, 9, none⟩ (.int .u64 (0))).setCell ⟨w.heap.size + 1, 10, none⟩ (.int .u64 (0))).setCell ⟨w.heap.size + 1, 11, none⟩ (.bool (false))).setCell ⟨w.heap.size + 1, 12, none⟩ (.int .i64 (2))).setCell ⟨w.heap.size + 1, 0, none⟩ (.int .i64 (0))).setCell ⟨w.heap.size + 1, 0, none⟩ (.int .i64 (2))).setCell ⟨w.heap.size + 1, 26, none⟩ (.bool (true))) = w6 at *
  clear hcx hb
  have hb := hbx
  clear hbx
  have a0 := hA.cell 0
  have a1 := hA.cell 1
  simp only [List.getElem?_cons_zero, List.getElem?_cons_succ] at a0 a1
  have b1 := hb.cell 1
  simp only [List.getElem?_cons_zero, List.getElem?_cons_succ] at b1
  have ht0 := Blk.new w6 25 [.int .u64 task]
  have hkc : Kept w6 (w6.alloc (.cells ([.int .u64 task] : List Value).toArray 25)) := (Below.refl _ _).alloc (Nat.le_refl _) _
  go_wp2_with fail
  clear b1 a0 a1
  obtain ⟨tb, htb⟩ : ∃ tb, tb = w6.heap.size := ⟨_, rfl⟩
  rw [← htb] at ht0 ⊢
  have htb3 : w.heap.size + 3 ≤ tb := by have := hr.lt; omega
  have HTB : Hid (w.heap.size + 3 ≤ tb) := htb3
  clear htb3
  clear htb
  generalize w6.alloc (.cells ([.int .u64 task] : List Value).toArray 25) = w8 at *
  have hcL8 : Chg (fun q => w.heap.size ≤ q ∧ q < w.heap.size + 3) w6 w8 := Chg.ofBelow hkc
  replace hcL := hcL.trans hcL8
  clear hcL8
  replace hA := hkc.blk hA
  replace hb := hkc.blk hb
  replace hr := hkc.blk hr
  replace hq0 := hkc.blk hq0
  replace hk := Kept.trans' hk hkc
  clear hkc
  have hrd : Reads w8 (.slice (some ⟨tb, 0, none⟩) 1 1) (([task] : List Int).map (Value.int .u64)) := .inr ⟨⟨tb, 0, none⟩, 1, rfl, Nat.le_refl _, by unfold maxLen; simp, fun j u hj => by
    match j, hj with
    | 0, hj => simp at hj; subst hj; exact ht0.cell 0⟩
  refine (putR_ref w8 Hg.out (HV.out _ hk) hrd rfl (by simp) (by simp) ⟨Nat.le_refl _, by unfold maxLen; simp⟩).mono ?_; rintro r w9 ⟨vp, xv, rfl, hr11, hkc, hxv⟩
  have hr11' := hr11
  obtain ⟨_, _, z0, z5, z6, z7, z9, z10, z11, z12, hvp, _, ⟨yo, yn, yc, rfl⟩, _⟩ := hr11
  have z8 : w.heap.size + 3 ≤ w8.heap.size := by have := hcL.size; omega
  subst hvp
  simp only [pcN11] at hr11' ⊢
  have hcL9 : Chg (fun q => w.heap.size ≤ q ∧ q < w.heap.size + 3) w8 w9 := Chg.ofBelow hkc
  replace hcL := hcL.trans hcL9
  clear hcL9 hrd
  replace hA := hkc.blk hA
  replace hb := hkc.blk hb
  replace hr := hkc.blk hr
  replace hq0 := hkc.blk hq0
  replace hk := Kept.trans' hk hkc
  clear hkc
  simp only [show min 1 4 = 1 from rfl] at hr11' ⊢
  have hcM : Chg (fun q => w.heap.size ≤ q ∧ q < w.heap.size + 3) w9 w9 := Chg.refl _ _
  have b0 := hb.cell 0
  have b1 := hb.cell 1
  have b2 := hb.cell 2
  have b3 := hb.cell 3
  have b4 := hb.cell 4
  have b5 := hb.cell 5
  have b6 := hb.cell 6
  have b7 := hb.cell 7
  have b8 := hb.cell 8
  have b9 := hb.cell 9
  have b10 := hb.cell 10
  have b11 := hb.cell 11
  have b12 := hb.cell 12
  have b13 := hb.cell 13
  have b14 := hb.cell 14
  have b15 := hb.cell 15
  have b16 := hb.cell 16
  have b17 := hb.cell 17
  have b18 := hb.cell 18
  have b19 := hb.cell 19
  have b20 := hb.cell 20
  have b21 := hb.cell 21
  have b22 := hb.cell 22
  have b23 := hb.cell 23
  have b24 := hb.cell 24
  have b25 := hb.cell 25
  have b26 := hb.cell 26
  have fb13 := hb.free 13
  have fb14 := hb.free 14
  have fb15 := hb.free 15
  have fb16 := hb.free 16
  have fb17 := hb.free 17
  have fb18 := hb.free 18
  have fb19 := hb.free 19
  have fb20 := hb.free 20
  have fb21 := hb.free 21
  have fb22 := hb.free 22
  have fb23 := hb.free 23
  have fb24 := hb.free 24
  have fb25 := hb.free 25
  simp only [List.getElem?_cons_zero, List.getElem?_cons_succ] at b0 b1 b2 b3 b4 b5 b6 b7 b8 b9 b10 b11 b12 b13 b14 b15 b16 b17 b18 b19 b20 b21 b22 b23 b24 b25 b26
  go_wp2_with fail
  clear b0 b1 b2 b3 b4 b5 b6 b7 b8 b9 b10 b11 b12 b13 b14 b15 b16 b17 b18 b19 b20 b21 b22 b23 b24 b25 b26 fb13 fb14 fb15 fb16 fb17 fb18 fb19 fb20 fb21 fb22 fb23 fb24 fb25
  have hbx : Blk (((((((((((((w9.setCell ⟨w.heap.size + 1, 13, none⟩ (.int .i64 (z0))).setCell ⟨w.heap.size + 1, 14, none⟩ (.int .i64 (1))).setCell ⟨w.heap.size + 1, 15, none⟩ (.slice (some ⟨tb, 0, none⟩) 1 1)).setCell ⟨w.heap.size + 1, 16, none⟩ (.int .i64 (0))).setCell ⟨w.heap.size + 1, 17, none⟩ (.int .i64 (0))).setCell ⟨w.heap.size + 1, 18, none⟩ (.int .i64 (z5))).setCell ⟨w.heap.size + 1, 19, none⟩ (.int .i64 (z6))).setCell ⟨w.heap.size + 1, 20, none⟩ (.int .i64 (z7))).setCell ⟨w.heap.size + 1, 21, none⟩ (.slice yo yn yc)).setCell ⟨w.heap.size + 1, 22, none⟩ (.int .u32 (z9))).setCell ⟨w.heap.size + 1, 23, none⟩ (.int .u64 (z10))).setCell ⟨w.heap.size + 1, 24, none⟩ (.int .u32 (z11))).setCell ⟨w.heap.size + 1, 25, none⟩ (.int .i64 (z12))) (w.heap.size + 1) 59 [.int .i64 (2), .int .u64 (task), .int .i64 (1), .int .i64 (0), .int .i64 (0), .int .i64 (0), .int .i64 (0), .int .i64 (0), .int .u64 (0), .int .u64 (0), .int .u64 (0), .bool (false), .int .i64 (2), .int .i64 (z0), .int .i64 (1), .slice (some ⟨tb, 0, none⟩) 1 1, .int .i64 (0), .int .i64 (0), .int .i64 (z5), .int .i64 (z6), .int .i64 (z7), .slice yo yn yc, .int .u32 (z9), .int .u64 (z10), .int .u32 (z11), .int .i64 (z12), .bool (true)] := (((((((((((((hb.set' 13 (.int .i64 (z0)) rfl).set' 14 (.int .i64 (1)) rfl).set' 15 (.slice (some ⟨tb, 0, none⟩) 1 1) rfl).set' 16 (.int .i64 (0)) rfl).set' 17 (.int .i64 (0)) rfl).set' 18 (.int .i64 (z5)) rfl).set' 19 (.int .i64 (z6)) rfl).set' 20 (.int .i64 (z7)) rfl).set' 21 (.slice yo yn yc) rfl).set' 22 (.int .u32 (z9)) rfl).set' 23 (.int .u64 (z10)) rfl).set' 24 (.int .u32 (z11)) rfl).set' 25 (.int .i64 (z12)) rfl)
  have hcx := ((((((((((((((Chg.refl (fun q => q = w.heap.size + 1) w9).setCell ⟨w.heap.size + 1, 13, none⟩ (.int .i64 (z0)) (fun _ => rfl)).setCell ⟨w.heap.size + 1, 14, none⟩ (.int .i64 (1)) (fun _ => rfl)).setCell ⟨w.heap.size + 1, 15, none⟩ (.slice (some ⟨tb, 0, none⟩) 1 1) (fun _ => rfl)).setCell ⟨w.heap.size + 1, 16, none⟩ (.int .i64 (0)) (fun _ => rfl)).setCell ⟨w.heap.size + 1, 17, none⟩ (.int .i64 (0)) (fun _ => rfl)).setCell ⟨w.heap.size + 1, 18, none⟩ (.int .i64 (z5)) (fun _ => rfl)).setCell ⟨w.heap.size + 1, 19, none⟩ (.int .i64 (z6)) (fun _ => rfl)).setCell ⟨w.heap.size + 1, 20, none⟩ (.int .i64 (z7)) (fun _ => rfl)).setCell ⟨w.heap.size + 1, 21, none⟩ (.slice yo yn yc) (fun _ => rfl)).setCell ⟨w.heap.size + 1, 22, none⟩ (.int .u32 (z9)) (fun _ => rfl)).setCell ⟨w.heap.size + 1, 23, none⟩ (.int .u64 (z10)) (fun _ => rfl)).setCell ⟨w.heap.size + 1, 24, none⟩ (.int .u32 (z11)) (fun _ => rfl)).setCell ⟨w.heap.size + 1, 25, none⟩ (.int .i64 (z12)) (fun _ => rfl))
  replace hA := hcx.blk hA (by show ¬ (_ = _); omega)
  replace hr := hcx.blk hr (by show ¬ (_ = _); omega)
  replace hq0 := hcx.blk hq0 (by show ¬ (_ = _); omega)
  replace hcL := hcL.trans (hcx.mono (fun q _ e => by omega))
  replace hcM := hcM.trans (hcx.mono (fun q _ e => by omega))
  replace hk := hk.trans (hcx.toBelow (B := w.heap.size) (by have := hk.size; omega) (fun q hq e => by omega))
  generalize (((((((((((((w9.setCell ⟨w.heap.size + 1, 13, none⟩ (.int .i64 (z0))).setCell ⟨w.heap.size + 1, 14, none⟩ (.int .i64 (1))).setCell ⟨w.heap.size + 1, 15, none⟩ (.slice (some ⟨tb, 0, none⟩) 1 1)).setCell ⟨w.heap.size + 1, 16, none⟩ (.int .i64 (0))).setCell ⟨w.heap.size + 1, 17, none⟩ (.int .i64 (0))).setCell ⟨w.heap.size + 1, 18, none⟩ (.int .i64 (z5))).setCell ⟨w.heap.size + 1, 19, none⟩ (.int .i64 (z6))).setCell ⟨w.heap.size + 1, 20, none⟩ (.int .i64 (z7))).setCell ⟨w.heap.size + 1, 21, none⟩ (.slice yo yn yc)).setCell ⟨w.heap.size + 1, 22, none⟩ (.int .u32 (z9))).setCell ⟨w.heap.size + 1, 23, none⟩ (.int .u64 (z10))).setCell ⟨w.heap.size + 1, 24, none⟩ (.int .u32 (z11))).setCell ⟨w.heap.size + 1, 25, none⟩ (.int .i64 (z12))) = w10 at *
  clear hcx hb
  have hb := hbx
  clear hbx
  have b0 := hb.cell 0
  have b1 := hb.cell 1
  simp only [List.getElem?_cons_zero, List.getElem?_cons_succ] at b0 b1
  go_wp2_with fail
  clear b0 b1
  have hbD : Blk w10.drew (w.heap.size + 1) 59 [.int .i64 (2), .int .u64 (task), .int .i64 (1), .int .i64 (0), .int .i64 (0), .int .i64 (0), .int .i64 (0), .int .i64 (0), .int .u64 (0), .int .u64 (0), .int .u64 (0), .bool (false), .int .i64 (2), .int .i64 (z0), .int .i64 (1), .slice (some ⟨tb, 0, none⟩) 1 1, .int .i64 (0), .int .i64 (0), .int .i64 (z5), .int .i64 (z6), .int .i64 (z7), .slice yo yn yc, .int .u32 (z9), .int .u64 (z10), .int .u32 (z11), .int .i64 (z12), .bool (true)] := hb
  have hrD : Blk w10.drew (w.heap.size + 2) 59 _ := hr
  refine wp_region_z 3 (fun w' => Blk w' (w.heap.size + 1) 59 [.int .i64 (2), .int .u64 (task), .int .i64 (1), .int .i64 (0), .int .i64 (0), .int .i64 (0), .int .i64 (0), .int .i64 (0), .int .u64 (0), .int .u64 (0), .int .u64 (0), .bool (false), .int .i64 (2), .int .i64 (z0), .int .i64 (1), .slice (some ⟨tb, 0, none⟩) 1 1, .int .i64 (0), .int .i64 (0), .int .i64 (z5), .int .i64 (z6), .int .i64 (z7), .slice yo yn yc, .int .u32 (z9), .int .u64 (z10), .int .u32 (z11), .int .i64 (z12), .bool (true)]) (by kernel_rfl) ?_
  refine wpAnyZ_take (i := 0) (v := ?v0z1) rfl (by kernel_rfl) (by kernel_rfl) (by kernel_rfl) (by kernel_rfl) (fun _ _ _ h => h) (Or.inl ⟨by rfl, ?hy0z1⟩) hbD ?_
  case hy0z1 => intro w hSw; (try dsimp only at hSw); first | (go_simp; done) | (go_simp; with_reducible rfl)
  try simp only [Act.put, List.getElem_toArray, List.getElem_cons_zero, List.setIfInBounds_toArray, List.set_cons_zero, List.set_cons_succ]
  refine wpAnyZ_take (i := 1) (v := .agg ([.int .i64 (2), .int .u64 (task), .int .i64 (1), .int .i64 (0), .int .i64 (0), .int .i64 (0), .int .i64 (0), .int .i64 (0), .int .u64 (0), .int .u64 (0), .int .u64 (0), .bool (false), .int .i64 (2), .int .i64 (z0), .int .i64 (1), .slice (some ⟨tb, 0, none⟩) 1 1, .int .i64 (0), .int .i64 (0), .int .i64 (z5), .int .i64 (z6), .int .i64 (z7), .slice yo yn yc, .int .u32 (z9), .int .u64 (z10), .int .u32 (z11), .int .i64 (z12), .bool (true)] : List Value).toArray) rfl (by kernel_rfl) (by kernel_rfl) (by kernel_rfl) (by kernel_rfl) (fun _ _ _ h => h) (yieldsIf_load_mid rfl 59 _ rfl (w.heap.size + 1) 0 rfl [.int .i64 (2), .int .u64 (task), .int .i64 (1), .int .i64 (0), .int .i64 (0), .int .i64 (0), .int .i64 (0), .int .i64 (0), .int .u64 (0), .int .u64 (0), .int .u64 (0), .bool (false), .int .i64 (2), .int .i64 (z0), .int .i64 (1), .slice (some ⟨tb, 0, none⟩) 1 1, .int .i64 (0), .int .i64 (0), .int .i64 (z5), .int .i64 (z6), .int .i64 (z7), .slice yo yn yc, .int .u32 (z9), .int .u64 (z10), .int .u32 (z11), .int .i64 (z12), .bool (true)] _ (fun w h => Blk.range h 0 _ rfl) Tryz.underlying59 rfl (by kernel_rfl)) hbD ?_
  try simp only [Act.put, List.getElem_toArray, List.getElem_cons_zero, List.getElem_cons_succ, List.setIfInBounds_toArray, List.set_cons_zero, List.set_cons_succ]
  refine wpAnyZ_take (i := 2) (v := ?v2z2) rfl (by kernel_rfl) (by kernel_rfl) (by kernel_rfl) (by kernel_rfl) (fun _ _ _ h => h) (Or.inl ⟨by rfl, ?hy2z2⟩) hbD ?_
  case hy2z2 => intro w hSw; (try dsimp only at hSw); first | (go_simp; done) | (go_simp; with_reducible rfl)
  try simp only [Act.put, List.getElem_toArray, List.getElem_cons_zero, List.getElem_cons_succ, List.setIfInBounds_toArray, List.set_cons_zero, List.set_cons_succ]
  refine wpAnyZ_one (i := 3) (by kernel_rfl) rfl (fun K hK => ?_)
  rw [if_pos (by kernel_rfl)]
  refine wp_store_row 59 _ _ rfl hrD 0 rfl [.int .i64 (2), .int .u64 (task), .int .i64 (1), .int .i64 (0), .int .i64 (0), .int .i64 (0), .int .i64 (0), .int .i64 (0), .int .u64 (0), .int .u64 (0), .int .u64 (0), .bool (false), .int .i64 (2), .int .i64 (z0), .int .i64 (1), .slice (some ⟨tb, 0, none⟩) 1 1, .int .i64 (0), .int .i64 (0), .int .i64 (z5), .int .i64 (z6), .int .i64 (z7), .slice yo yn yc, .int .u32 (z9), .int .u64 (z10), .int .u32 (z11), .int .i64 (z12), .bool (true)] [.int .i64 (2), .int .u64 (task), .int .i64 (1), .int .i64 (0), .int .i64 (0), .int .i64 (0), .int .i64 (0), .int .i64 (0), .int .u64 (0), .int .u64 (0), .int .u64 (0), .bool (false), .int .i64 (2), .int .i64 (z0), .int .i64 (1), .slice (some ⟨tb, 0, none⟩) 1 1, .int .i64 (0), .int .i64 (0), .int .i64 (z5), .int .i64 (z6), .int .i64 (z7), .slice yo yn yc, .int .u32 (z9), .int .u64 (z10), .int .u32 (z11), .int .i64 (z12), .bool (true)] rfl rfl (by simp) rfl (by kernel_rfl) ?_
  refine hK.out _ _ (fun h => absurd rfl h) ?_
  refine wpAnyZ_done (by kernel_rfl) ?_ _
  clear hK K
  have hr9 : Blk (w10.drew.setRow (w.heap.size + 2) ([.int .i64 (2), .int .u64 (task), .int .i64 (1), .int .i64 (0), .int .i64 (0), .int .i64 (0), .int .i64 (0), .int .i64 (0), .int .u64 (0), .int .u64 (0), .int .u64 (0), .bool (false), .int .i64 (2), .int .i64 (z0), .int .i64 (1), .slice (some ⟨tb, 0, none⟩) 1 1, .int .i64 (0), .int .i64 (0), .int .i64 (z5), .int .i64 (z6), .int .i64 (z7), .slice yo yn yc, .int .u32 (z9), .int .u64 (z10), .int .u32 (z11), .int .i64 (z12), .bool (true)] : List Value).toArray) (w.heap.size + 2) 59 [.int .i64 (2), .int .u64 (task), .int .i64 (1), .int .i64 (0), .int .i64 (0), .int .i64 (0), .int .i64 (0), .int .i64 (0), .int .u64 (0), .int .u64 (0), .int .u64 (0), .bool (false), .int .i64 (2), .int .i64 (z0), .int .i64 (1), .slice (some ⟨tb, 0, none⟩) 1 1, .int .i64 (0), .int .i64 (0), .int .i64 (z5), .int .i64 (z6), .int .i64 (z7), .slice yo yn yc, .int .u32 (z9), .int .u64 (z10), .int .u32 (z11), .int .i64 (z12), .bool (true)] := Blk.setRow hrD _
  have hk9 : Kept w (w10.drew.setRow (w.heap.size + 2) ([.int .i64 (2), .int .u64 (task), .int .i64 (1), .int .i64 (0), .int .i64 (0), .int .i64 (0), .int .i64 (0), .int .i64 (0), .int .u64 (0), .int .u64 (0), .int .u64 (0), .bool (false), .int .i64 (2), .int .i64 (z0), .int .i64 (1), .slice (some ⟨tb, 0, none⟩) 1 1, .int .i64 (0), .int .i64 (0), .int .i64 (z5), .int .i64 (z6), .int .i64 (z7), .slice yo yn yc, .int .u32 (z9), .int .u64 (z10), .int .u32 (z11), .int .i64 (z12), .bool (true)] : List Value).toArray) := Below.setRow (Below.drew hk) _ (by omega)
  have hc9 : Chg (fun q => q = w.heap.size + 2) w10 (w10.drew.setRow (w.heap.size + 2) ([.int .i64 (2), .int .u64 (task), .int .i64 (1), .int .i64 (0), .int .i64 (0), .int .i64 (0), .int .i64 (0), .int .i64 (0), .int .u64 (0), .int .u64 (0), .int .u64 (0), .bool (false), .int .i64 (2), .int .i64 (z0), .int .i64 (1), .slice (some ⟨tb, 0, none⟩) 1 1, .int .i64 (0), .int .i64 (0), .int .i64 (z5), .int .i64 (z6), .int .i64 (z7), .slice yo yn yc, .int .u32 (z9), .int .u64 (z10), .int .u32 (z11), .int .i64 (z12), .bool (true)] : List Value).toArray) := Chg.setRow (Chg.refl _ _).drew _ _ (fun _ => rfl)
  generalize (w10.drew.setRow (w.heap.size + 2) ([.int .i64 (2), .int .u64 (task), .int .i64 (1), .int .i64 (0), .int .i64 (0), .int .i64 (0), .int .i64 (0), .int .i64 (0), .int .u64 (0), .int .u64 (0), .int .u64 (0), .bool (false), .int .i64 (2), .int .i64 (z0), .int .i64 (1), .slice (some ⟨tb, 0, none⟩) 1 1, .int .i64 (0), .int .i64 (0), .int .i64 (z5), .int .i64 (z6), .int .i64 (z7), .slice yo yn yc, .int .u32 (z9), .int .u64 (z10), .int .u32 (z11), .int .i64 (z12), .bool (true)] : List Value).toArray) = w99 at *
  clear hbD hrD
  go_wp2_with fail
  exact bodyPost_ret (v := .tuple #[l', .agg ([.int .i64 (2), .int .u64 (task), .int .i64 (1), .int .i64 (0), .int .i64 (0), .int .i64 (0), .int .i64 (0), .int .i64 (0), .int .u64 (0), .int .u64 (0), .int .u64 (0), .bool (false), .int .i64 (2), .int .i64 (z0), .int .i64 (1), .slice (some ⟨tb, 0, none⟩) 1 1, .int .i64 (0), .int .i64 (0), .int .i64 (z5), .int .i64 (z6), .int .i64 (z7), .slice yo yn yc, .int .u32 (z9), .int .u64 (z10), .int .u32 (z11), .int .i64 (z12), .bool (true)] : List Value).toArray]) (results_tc (l := [.int .i64 (2), .int .u64 (task), .int .i64 (1), .int .i64 (0), .int .i64 (0), .int .i64 (0), .int .i64 (0), .int .i64 (0), .int .u64 (0), .int .u64 (0), .int .u64 (0), .bool (false), .int .i64 (2), .int .i64 (z0), .int .i64 (1), .slice (some ⟨tb, 0, none⟩) 1 1, .int .i64 (0), .int .i64 (0), .int .i64 (z5), .int .i64 (z6), .int .i64 (z7), .slice yo yn yc, .int .u32 (z9), .int .u64 (z10), .int .u32 (z11), .int .i64 (z12), .bool (true)]) Tryz.results17 rfl rfl hr9 _ Tryz.underlying59 rfl (by kernel_rfl)) rfl ⟨_, _, _, _, rfl, by rw [HST.out]; exact (HM.out w (Below.refl _ _)).past hl' (by simp [hlm]) (fun q e => by omega) hown (hcL.trans (hc9.mono (fun q _ e => by omega))), by rw [HST.out]; exact ⟨⟨_, _, _, _, _, _, _, _, _, _, _, _, _, _, _, _, _, _, _, _, _, _, _, rfl, fun e => (by cases e), fun _ => hr11'.chg (hcM.trans (hc9.mono (fun q _ e => (by omega : w.heap.size ≤ q ∧ q < w.heap.size + 3)))) (fun _ g e hq => by simp [Value.ownBlock] at e; have := HTB.out; omega) (fun _ _ g e hq => by have := hxv g e; omega)⟩, ⟨_, _, _, rfl⟩, ⟨_, _, _, rfl⟩, fun e => (by cases e)⟩, hk9, fun g e => (hown g e).imp id (fun e => by omega), by rw [HST.out]; exact fun q e => .inr (by obtain ⟨_, ⟨_, e⟩ | ⟨_, _, e⟩⟩ := e; (· simp [Value.ownBlock] at e; have := HTB.out; omega); (· have := hxv q e; omega))⟩

end Go.Proofs.YtfbcadknimfhjaaGreat
