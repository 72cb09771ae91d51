/- The document's packets: how many tasks there are: walked. -/
import Derived.Test.YtfbcadknimfhjaaGreatPkRef11
namespace Go.Proofs.YtfbcadknimfhjaaGreat
open Go.RowKit

set_option maxRecDepth 8000 in
set_option maxHeartbeats 3200000 in
theorem st11_many {c : Cfg} {mem : List Int} {s : PM} {a l v tv xvl : Value} (w : World) (hg : Good c) (ha : MapV w c a) (h : R11 w v (linksL c) tv xvl s) (hm : MemV w l mem) (hall : ∀ x ∈ mem, U x) (hlen : mem.length ≤ 20000) (hp : s.pc = .many) :
    Calls Tryz.prog 48 #[a, l, v] w fun e w' => ∃ l' v' xvl', e = .returned (.tuple #[l', v']) ∧ MemV w' l' (pmStep c mem s).1 ∧ R11 w' v' (linksL c) tv xvl' (pmStep c mem s).2 ∧ Kept w w' ∧ (∀ g, l'.ownBlock = some g → l' = l ∨ w.heap.size ≤ g) ∧ XKeep w.heap.size s (pmStep c mem s).2 xvl xvl' := by
  obtain ⟨pc, tasks, j, p, x⟩ := s
  simp only at hp
  subst hp
  obtain ⟨⟨hp0, hp1⟩, ⟨hj0, hj1⟩, kind, xk, xpc, xhd, xi, xh, xl, xt, rfl, htv, ⟨xo, xn, xc, rfl⟩, hx⟩ := h
  simp only [pcN11] at hp0 hp1 hj0 hj1 htv hx ⊢
  obtain ⟨to, tc, rfl⟩ := htv.form
  obtain ⟨tn, htn⟩ : ∃ tn, tn = (tasks.map (Value.int .u64)).length := ⟨_, rfl⟩
  rw [← htn] at htv ⊢
  have HTN : Hid (tn = tasks.length) := by rw [htn]; simp [Hid]
  clear htn
  obtain ⟨va, rfl, hT⟩ := ha
  obtain ⟨ao, acap, rfl, _⟩ := hT.ex
  have HV : Hid (∀ W, Kept w W → MapV W c (.agg #[.slice ao (allT c).length acap, .int .i64 (manyI c)])) := fun W k => ⟨_, rfl, hT.kept k⟩
  clear hT
  generalize (allT c).length = ln at *
  obtain ⟨mo, mc, hmv⟩ := hm.form
  obtain ⟨ml, hml⟩ : ∃ ml, ml = (mem.map (Value.int .u64)).length := ⟨_, rfl⟩
  rw [← hml] at hmv
  subst hmv
  clear hml
  have HM : Hid (∀ W, Kept w W → MemV W (.slice mo ml mc) mem) := fun W k => hm.kept k
  have HT : Hid (∀ W, Kept w W → Reads W (.slice to tn tc) (tasks.map (Value.int .u64))) := fun W k => htv.kept k
  have HA : Hid (∀ x ∈ mem, U x) := hall
  clear hm htv hall
  unfold pmStep pmMany
  simp only []
  clear hx
  have HP : Hid (placeT c ⟨11, p, 0⟩ = pPack c p 0) := place_pack hg p 0 (.inl rfl)
  have ytn : IntKind.u64.wrap (tn : Int) = tn := u64_in (by omega) (by have := HTN.out; omega)
  have HP4 : Hid (placeT c ⟨4, 0, 0⟩ = 4) := place_one (by omega) (by omega)
  have Hg : Hid (Good c) := hg
  rw [← HTN.out]
  clear hg
  have hA0 := Blk.new w 35 [.slice ao ln acap, .int .i64 (manyI c)]
  have hk0 : Kept w (w.alloc (.cells ([.slice ao ln acap, .int .i64 (manyI c)] : List Value).toArray 35)) := (Below.refl _ _).alloc (Nat.le_refl _) _
  have z0 : (w.alloc (.cells ([.slice ao ln acap, .int .i64 (manyI c)] : List Value).toArray 35)).heap.size = w.heap.size + 1 := by simp
  go_enter Tryz.func48, Tryz.ntmps48
  go_wp2_with fail
  generalize w.alloc (.cells ([.slice ao ln acap, .int .i64 (manyI c)] : List Value).toArray 35) = w1 at *
  have hb0 := Blk.new w1 57 [.int .i64 (kind), .int .i64 (3), .slice to tn tc, .int .i64 (j), .int .i64 (p), .int .i64 (xk), .int .i64 (xpc), .int .i64 (xhd), .slice xo xn xc, .int .u32 (xi), .int .u64 (xh), .int .u32 (xl), .int .i64 (xt)]
  rw [z0] at hb0
  have hk1 : Kept w1 (w1.alloc (.cells ([.int .i64 (kind), .int .i64 (3), .slice to tn tc, .int .i64 (j), .int .i64 (p), .int .i64 (xk), .int .i64 (xpc), .int .i64 (xhd), .slice xo xn xc, .int .u32 (xi), .int .u64 (xh), .int .u32 (xl), .int .i64 (xt)] : List Value).toArray 57)) := (Below.refl _ _).alloc (Nat.le_refl _) _
  have z1 : (w1.alloc (.cells ([.int .i64 (kind), .int .i64 (3), .slice to tn tc, .int .i64 (j), .int .i64 (p), .int .i64 (xk), .int .i64 (xpc), .int .i64 (xhd), .slice xo xn xc, .int .u32 (xi), .int .u64 (xh), .int .u32 (xl), .int .i64 (xt)] : List Value).toArray 57)).heap.size = w.heap.size + 2 := by simp [z0]
  generalize w1.alloc (.cells ([.int .i64 (kind), .int .i64 (3), .slice to tn tc, .int .i64 (j), .int .i64 (p), .int .i64 (xk), .int .i64 (xpc), .int .i64 (xhd), .slice xo xn xc, .int .u32 (xi), .int .u64 (xh), .int .u32 (xl), .int .i64 (xt)] : List Value).toArray 57) = w2 at *
  have hr0 := Blk.new w2 57 [.int .i64 0, .int .i64 0, .slice none 0 0, .int .i64 0, .int .i64 0, .int .i64 0, .int .i64 0, .int .i64 0, .slice none 0 0, .int .u32 0, .int .u64 0, .int .u32 0, .int .i64 0]
  rw [z1] at hr0
  have hk2 : Kept w2 (w2.alloc (.cells ([.int .i64 0, .int .i64 0, .slice none 0 0, .int .i64 0, .int .i64 0, .int .i64 0, .int .i64 0, .int .i64 0, .slice none 0 0, .int .u32 0, .int .u64 0, .int .u32 0, .int .i64 0] : List Value).toArray 57)) := (Below.refl _ _).alloc (Nat.le_refl _) _
  have z2 : (w2.alloc (.cells ([.int .i64 0, .int .i64 0, .slice none 0 0, .int .i64 0, .int .i64 0, .int .i64 0, .int .i64 0, .int .i64 0, .slice none 0 0, .int .u32 0, .int .u64 0, .int .u32 0, .int .i64 0] : List Value).toArray 57)).heap.size = w.heap.size + 3 := by simp [z1]
  generalize w2.alloc (.cells ([.int .i64 0, .int .i64 0, .slice none 0 0, .int .i64 0, .int .i64 0, .int .i64 0, .int .i64 0, .int .i64 0, .slice none 0 0, .int .u32 0, .int .u64 0, .int .u32 0, .int .i64 0] : List Value).toArray 57) = w3 at *
  have hA := hk2.blk (hk1.blk hA0)
  have hb := hk2.blk hb0
  have hr := hr0
  have hk : Kept w w3 := (hk0.trans' hk1).trans' hk2
  clear hA0 hb0 hr0 hk0 hk1 hk2 z0 z1
  have hbD := hb.drew
  have hAD := hA.drew
  have hrD := hr.drew
  have hkD : Kept w w3.drew := hk.drew
  have d0 := hbD.cell 0
  have d1 := hbD.cell 1
  have d2 := hbD.cell 2
  have d3 := hbD.cell 3
  have d4 := hbD.cell 4
  have d5 := hbD.cell 5
  have d6 := hbD.cell 6
  have d7 := hbD.cell 7
  have d8 := hbD.cell 8
  have d9 := hbD.cell 9
  have d10 := hbD.cell 10
  have d11 := hbD.cell 11
  have d12 := hbD.cell 12
  simp only [List.getElem?_cons_zero, List.getElem?_cons_succ] at d0 d1 d2 d3 d4 d5 d6 d7 d8 d9 d10 d11 d12
  have a0 := hAD.cell 0
  have a1 := hAD.cell 1
  simp only [List.getElem?_cons_zero, List.getElem?_cons_succ] at a0 a1
  go_wp2_with fail
  refine wp_region_z 10 (fun w' => w'.cell? ⟨w.heap.size, 0, none⟩ = some (.slice ao ln acap) ∧ w'.cell? ⟨w.heap.size, 1, none⟩ = some (.int .i64 (manyI c)) ∧ w'.cell? ⟨w.heap.size + 1, 2, none⟩ = some (.slice to tn tc) ∧ w'.cell? ⟨w.heap.size + 1, 4, none⟩ = some (.int .i64 p)) (by kernel_rfl) ?_
  refine wpAnyZ_take (i := 0) (v := ?v0z9) rfl (by kernel_rfl) (by kernel_rfl) (by kernel_rfl) (by kernel_rfl) (fun _ _ _ h => h) (Or.inl ⟨by rfl, ?hy0z9⟩) ⟨a0,a1,d2,d4⟩ ?_
  case hy0z9 => intro w hSw; (try dsimp only at hSw); first | (go_simp; done) | (go_simp; with_reducible rfl)
  try simp only [Act.put, List.setIfInBounds_toArray]
  refine wpAnyZ_take (i := 1) (v := ?v1z9) rfl (by kernel_rfl) (by kernel_rfl) (by kernel_rfl) (by kernel_rfl) (fun _ _ _ h => h) (Or.inl ⟨by rfl, ?hy1z9⟩) ⟨a0,a1,d2,d4⟩ ?_
  case hy1z9 => intro w hSw; (try dsimp only at hSw); first | (go_simp; done) | (go_simp; with_reducible rfl)
  try simp only [Act.put]
  refine wpAnyZ_take (i := 2) (v := ?v2z9) rfl (by kernel_rfl) (by kernel_rfl) (by kernel_rfl) (by kernel_rfl) (fun _ _ _ h => h) (Or.inl ⟨by rfl, ?hy2z9⟩) ⟨a0,a1,d2,d4⟩ ?_
  case hy2z9 => intro w hSw; (try dsimp only at hSw); first | (go_simp; done) | (go_simp; with_reducible rfl)
  try simp only [Act.put]
  refine wpAnyZ_take (i := 3) (v := ?v3z9) rfl (by kernel_rfl) (by kernel_rfl) (by kernel_rfl) (by kernel_rfl) (fun _ _ _ h => h) (Or.inl ⟨by rfl, ?hy3z9⟩) ⟨a0,a1,d2,d4⟩ ?_
  case hy3z9 => intro w hSw; (try dsimp only at hSw); first | (go_simp; done) | (go_simp; with_reducible rfl)
  try simp only [Act.put]
  refine wpAnyZ_take (i := 5) (v := ?v5z9) rfl (by kernel_rfl) (by kernel_rfl) (by kernel_rfl) (by kernel_rfl) (fun _ _ _ h => h) (Or.inl ⟨by rfl, ?hy5z9⟩) ⟨a0,a1,d2,d4⟩ ?_
  case hy5z9 => intro w hSw; (try dsimp only at hSw); first | (go_simp; done) | (go_simp; with_reducible rfl)
  try simp only [Act.put]
  refine wpAnyZ_take (i := 6) (v := ?v6z9) rfl (by kernel_rfl) (by kernel_rfl) (by kernel_rfl) (by kernel_rfl) (fun _ _ _ h => h) (Or.inl ⟨by rfl, ?hy6z9⟩) ⟨a0,a1,d2,d4⟩ ?_
  case hy6z9 => intro w hSw; (try dsimp only at hSw); first | (go_simp; done) | (go_simp; with_reducible rfl)
  try simp only [Act.put]
  refine wpAnyZ_take (i := 7) (v := ?v7z9) rfl (by kernel_rfl) (by kernel_rfl) (by kernel_rfl) (by kernel_rfl) (fun _ _ _ h => h) (Or.inl ⟨by rfl, ?hy7z9⟩) ⟨a0,a1,d2,d4⟩ ?_
  case hy7z9 => intro w hSw; (try dsimp only at hSw); first | (go_simp; done) | (go_simp; with_reducible rfl)
  try simp only [Act.put]
  refine wpAnyZ_take (i := 8) (v := ?v8z9) rfl (by kernel_rfl) (by kernel_rfl) (by kernel_rfl) (by kernel_rfl) (fun _ _ _ h => h) (Or.inl ⟨by rfl, ?hy8z9⟩) ⟨a0,a1,d2,d4⟩ ?_
  case hy8z9 => intro w hSw; (try dsimp only at hSw); first | (go_simp; done) | (go_simp; with_reducible rfl)
  try simp only [Act.put]
  refine wpAnyZ_one (i := 4) (by kernel_rfl) rfl (fun K hK => ?_)
  go_simp
  go_at_call 54
  refine (at_ref 11 p 0 _ (HV.out _ hkD)).mono ?_; rintro e w5 ⟨rfl, hkc⟩
  rw [HP.out]
  have hb5 := hkc.blk hbD
  have hA5 := hkc.blk hAD
  have hr5 := hkc.blk hrD
  have hk5 := Kept.trans' hkD hkc
  have e0 := hb5.cell 0
  have e1 := hb5.cell 1
  have e2 := hb5.cell 2
  have e3 := hb5.cell 3
  have e4 := hb5.cell 4
  have e5 := hb5.cell 5
  have e6 := hb5.cell 6
  have e7 := hb5.cell 7
  have e8 := hb5.cell 8
  have e9 := hb5.cell 9
  have e10 := hb5.cell 10
  have e11 := hb5.cell 11
  have e12 := hb5.cell 12
  simp only [List.getElem?_cons_zero, List.getElem?_cons_succ] at e0 e1 e2 e3 e4 e5 e6 e7 e8 e9 e10 e11 e12
  have g0 := hA5.cell 0
  have g1 := hA5.cell 1
  simp only [List.getElem?_cons_zero, List.getElem?_cons_succ] at g0 g1
  refine hK.out _ _ (fun _ => ⟨g0,g1,e2,e4⟩) ?_
  clear hK K
  try simp only [Act.put, List.setIfInBounds_toArray, List.set_cons_zero, List.set_cons_succ]
  refine wpAnyZ_one (i := 9) (by kernel_rfl) rfl (fun K hK => ?_)
  go_simp
  go_at_call 22
  refine (putL_ref (pPack c p 0) tn _ (HM.out _ hk5) hlen).mono ?_; rintro e w6 ⟨l', rfl, hl', hkc6, hown⟩
  have hb6 := hkc6.blk hb5
  have hA6 := hkc6.blk hA5
  have hr6 := hkc6.blk hr5
  have hk6 := Kept.trans' hk5 hkc6
  have z5 : w.heap.size + 2 < w5.heap.size := hr5.lt
  have m0 := hb6.cell 0
  have m1 := hb6.cell 1
  have m2 := hb6.cell 2
  have m3 := hb6.cell 3
  have m4 := hb6.cell 4
  have m5 := hb6.cell 5
  have m6 := hb6.cell 6
  have m7 := hb6.cell 7
  have m8 := hb6.cell 8
  have m9 := hb6.cell 9
  have m10 := hb6.cell 10
  have m11 := hb6.cell 11
  have m12 := hb6.cell 12
  simp only [List.getElem?_cons_zero, List.getElem?_cons_succ] at m0 m1 m2 m3 m4 m5 m6 m7 m8 m9 m10 m11 m12
  have n0 := hA6.cell 0
  have n1 := hA6.cell 1
  simp only [List.getElem?_cons_zero, List.getElem?_cons_succ] at n0 n1
  refine hK.out _ _ (fun _ => ⟨n0,n1,m2,m4⟩) ?_
  clear hK K
  try simp only [Act.put, List.setIfInBounds_toArray, List.set_cons_zero, List.set_cons_succ]
  refine wpAnyZ_one (i := 10) (by kernel_rfl) rfl (fun K hK => ?_)
  go_simp
  refine hK.out _ _ (fun h => absurd rfl h) ?_
  refine wpAnyZ_done (by kernel_rfl) ?_ _
  clear hK K
  clear d0 d1 d2 d3 d4 d5 d6 d7 d8 d9 d10 d11 d12 a0 a1 e0 e1 e2 e3 e4 e5 e6 e7 e8 e9 e10 e11 e12 g0 g1 m0 m1 m2 m3 m4 m5 m6 m7 m8 m9 m10 m11 m12 n0 n1  hb hA hr hk hbD hAD hrD hb5 hA5 hr5 hkc hkc6 hkD
  have hbD := hb6.drew
  have hAD := hA6.drew
  have hrD := hr6.drew
  have hkD : Kept w w6.drew := hk6.drew
  have b0 := hb6.cell 0
  have b1 := hb6.cell 1
  have b2 := hb6.cell 2
  have b3 := hb6.cell 3
  have b4 := hb6.cell 4
  have b5 := hb6.cell 5
  have b6 := hb6.cell 6
  have b7 := hb6.cell 7
  have b8 := hb6.cell 8
  have b9 := hb6.cell 9
  have b10 := hb6.cell 10
  have b11 := hb6.cell 11
  have b12 := hb6.cell 12
  simp only [List.getElem?_cons_zero, List.getElem?_cons_succ] at b0 b1 b2 b3 b4 b5 b6 b7 b8 b9 b10 b11 b12
  have d0 := hbD.cell 0
  have d1 := hbD.cell 1
  have d2 := hbD.cell 2
  have d3 := hbD.cell 3
  have d4 := hbD.cell 4
  have d5 := hbD.cell 5
  have d6 := hbD.cell 6
  have d7 := hbD.cell 7
  have d8 := hbD.cell 8
  have d9 := hbD.cell 9
  have d10 := hbD.cell 10
  have d11 := hbD.cell 11
  have d12 := hbD.cell 12
  simp only [List.getElem?_cons_zero, List.getElem?_cons_succ] at d0 d1 d2 d3 d4 d5 d6 d7 d8 d9 d10 d11 d12
  have a0 := hAD.cell 0
  have a1 := hAD.cell 1
  simp only [List.getElem?_cons_zero, List.getElem?_cons_succ] at a0 a1
  go_wp2_with fail
  refine wp_region_z 6 (fun w' => w'.cell? ⟨w.heap.size, 0, none⟩ = some (.slice ao ln acap) ∧ w'.cell? ⟨w.heap.size, 1, none⟩ = some (.int .i64 (manyI c)) ∧ w'.cell? ⟨w.heap.size + 1, 4, none⟩ = some (.int .i64 p)) (by kernel_rfl) ?_
  refine wpAnyZ_take (i := 0) (v := ?v0z10) rfl (by kernel_rfl) (by kernel_rfl) (by kernel_rfl) (by kernel_rfl) (fun _ _ _ h => h) (Or.inl ⟨by rfl, ?hy0z10⟩) ⟨a0,a1,d4⟩ ?_
  case hy0z10 => intro w hSw; (try dsimp only at hSw); first | (go_simp; done) | (go_simp; with_reducible rfl)
  try simp only [Act.put, List.setIfInBounds_toArray]
  refine wpAnyZ_take (i := 2) (v := ?v2z10) rfl (by kernel_rfl) (by kernel_rfl) (by kernel_rfl) (by kernel_rfl) (fun _ _ _ h => h) (Or.inl ⟨by rfl, ?hy2z10⟩) ⟨a0,a1,d4⟩ ?_
  case hy2z10 => intro w hSw; (try dsimp only at hSw); first | (go_simp; done) | (go_simp; with_reducible rfl)
  try simp only [Act.put]
  refine wpAnyZ_take (i := 3) (v := ?v3z10) rfl (by kernel_rfl) (by kernel_rfl) (by kernel_rfl) (by kernel_rfl) (fun _ _ _ h => h) (Or.inl ⟨by rfl, ?hy3z10⟩) ⟨a0,a1,d4⟩ ?_
  case hy3z10 => intro w hSw; (try dsimp only at hSw); first | (go_simp; done) | (go_simp; with_reducible rfl)
  try simp only [Act.put]
  refine wpAnyZ_one (i := 1) (by kernel_rfl) rfl (fun K hK => ?_)
  go_simp
  go_at_call 79
  refine (stack_ref 4 _ Hg.out (HV.out _ hkD) HP4.out).mono ?_; rintro e w7 ⟨vk, rfl, hrow, hk7, hownk⟩
  obtain ⟨yo, yc, hvk⟩ := hrow.form
  obtain ⟨yn, hyn⟩ : ∃ yn, yn = ((linksL c).map (Value.int .i64)).length := ⟨_, rfl⟩
  rw [← hyn] at hvk
  subst hvk
  clear hyn
  have hb7 := hk7.blk hbD
  have hA7 := hk7.blk hAD
  have hr7 := hk7.blk hrD
  have hkw7 := Kept.trans' hkD hk7
  have e0 := hb7.cell 0
  have e1 := hb7.cell 1
  have e2 := hb7.cell 2
  have e3 := hb7.cell 3
  have e4 := hb7.cell 4
  have e5 := hb7.cell 5
  have e6 := hb7.cell 6
  have e7 := hb7.cell 7
  have e8 := hb7.cell 8
  have e9 := hb7.cell 9
  have e10 := hb7.cell 10
  have e11 := hb7.cell 11
  have e12 := hb7.cell 12
  simp only [List.getElem?_cons_zero, List.getElem?_cons_succ] at e0 e1 e2 e3 e4 e5 e6 e7 e8 e9 e10 e11 e12
  have g0 := hA7.cell 0
  have g1 := hA7.cell 1
  simp only [List.getElem?_cons_zero, List.getElem?_cons_succ] at g0 g1
  refine hK.out _ _ (fun _ => ⟨g0,g1,e4⟩) ?_
  clear hK K
  try simp only [Act.put, List.setIfInBounds_toArray, List.set_cons_zero, List.set_cons_succ]
  refine wpAnyZ_one (i := 4) (by kernel_rfl) rfl (fun K hK => ?_)
  go_simp
  go_at_call 81
  refine (push_ref 4 p _ hrow ⟨hp0, hp1⟩).mono ?_; rintro e w8 ⟨vx, rfl, hx9, hk8⟩
  obtain ⟨yk, yt, rfl⟩ := hx9.parts
  simp only [pcN] at hx9 ⊢
  have hb8 := hk8.blk hb7
  have hA8 := hk8.blk hA7
  have hr8 := hk8.blk hr7
  have hkw8 := Kept.trans' hkw7 hk8
  have m0 := hb8.cell 0
  have m1 := hb8.cell 1
  have m2 := hb8.cell 2
  have m3 := hb8.cell 3
  have m4 := hb8.cell 4
  have m5 := hb8.cell 5
  have m6 := hb8.cell 6
  have m7 := hb8.cell 7
  have m8 := hb8.cell 8
  have m9 := hb8.cell 9
  have m10 := hb8.cell 10
  have m11 := hb8.cell 11
  have m12 := hb8.cell 12
  have fm5 := hb8.free 5
  have fm6 := hb8.free 6
  have fm7 := hb8.free 7
  have fm8 := hb8.free 8
  have fm9 := hb8.free 9
  have fm10 := hb8.free 10
  have fm11 := hb8.free 11
  have fm12 := hb8.free 12
  simp only [List.getElem?_cons_zero, List.getElem?_cons_succ] at m0 m1 m2 m3 m4 m5 m6 m7 m8 m9 m10 m11 m12
  have n0 := hA8.cell 0
  have n1 := hA8.cell 1
  simp only [List.getElem?_cons_zero, List.getElem?_cons_succ] at n0 n1
  refine hK.out _ _ (fun _ => ⟨n0,n1,m4⟩) ?_
  clear hK K
  try simp only [Act.put, List.setIfInBounds_toArray, List.set_cons_zero, List.set_cons_succ]
  refine wpAnyZ_one (i := 5) (by kernel_rfl) rfl (fun K hK => ?_)
  go_simp
  refine hK.out _ _ (fun _ => ⟨n0,n1,m4⟩) ?_
  clear hK K
  try simp only [Act.put, List.setIfInBounds_toArray, List.set_cons_zero, List.set_cons_succ]
  refine wpAnyZ_one (i := 6) (by kernel_rfl) rfl (fun K hK => ?_)
  go_simp
  refine hK.out _ _ (fun h => absurd rfl h) ?_
  refine wpAnyZ_done (by kernel_rfl) ?_ _
  clear hK K
  have hl8 := Row.kept hl' (Kept.trans' (Kept.trans' (show Kept w6 w6.drew from (Below.refl _ _).drew) hk7) hk8)
  have hkz : w.heap.size + 2 < w6.heap.size := hr6.lt
  have hcL : Chg (fun q => q = w.heap.size + 1 ∨ q = w.heap.size + 2) w8 w8 := Chg.refl _ _
  clear b0 b1 b2 b3 b4 b5 b6 b7 b8 b9 b10 b11 b12 d0 d1 d2 d3 d4 d5 d6 d7 d8 d9 d10 d11 d12 a0 a1 e0 e1 e2 e3 e4 e5 e6 e7 e8 e9 e10 e11 e12 g0 g1 m0 m1 m2 m3 m4 m5 m6 m7 m8 m9 m10 m11 m12 fm5 fm6 fm7 fm8 fm9 fm10 fm11 fm12 n0 n1  hb6 hA6 hr6 hk6 hb7 hA7 hr7 hkw7 hkD hbD hAD hrD hrow hk7 hk8
  have hb := hb8
  have hA := hA8
  have hr := hr8
  have hk := hkw8
  clear hb8 hA8 hr8 hkw8
  have hb9 : Blk ((((((((w8.setCell ⟨w.heap.size + 1, 5, none⟩ (.int .i64 (yk))).setCell ⟨w.heap.size + 1, 6, none⟩ (.int .i64 (1))).setCell ⟨w.heap.size + 1, 7, none⟩ (.int .i64 (4))).setCell ⟨w.heap.size + 1, 8, none⟩ (.slice yo yn yc)).setCell ⟨w.heap.size + 1, 9, none⟩ (.int .u32 (p))).setCell ⟨w.heap.size + 1, 10, none⟩ (.int .u64 (0))).setCell ⟨w.heap.size + 1, 11, none⟩ (.int .u32 (0))).setCell ⟨w.heap.size + 1, 12, none⟩ (.int .i64 (yt))) (w.heap.size + 1) 57 [.int .i64 (kind), .int .i64 (3), .slice to tn tc, .int .i64 (j), .int .i64 (p), .int .i64 (yk), .int .i64 (1), .int .i64 (4), .slice yo yn yc, .int .u32 (p), .int .u64 (0), .int .u32 (0), .int .i64 (yt)] := ((((((((hb.set' 5 (.int .i64 (yk)) rfl).set' 6 (.int .i64 (1)) rfl).set' 7 (.int .i64 (4)) rfl).set' 8 (.slice yo yn yc) rfl).set' 9 (.int .u32 (p)) rfl).set' 10 (.int .u64 (0)) rfl).set' 11 (.int .u32 (0)) rfl).set' 12 (.int .i64 (yt)) rfl)
  have hcx := (((((((((Chg.refl (fun q => q = w.heap.size + 1) w8).setCell ⟨w.heap.size + 1, 5, none⟩ (.int .i64 (yk)) (fun _ => rfl)).setCell ⟨w.heap.size + 1, 6, none⟩ (.int .i64 (1)) (fun _ => rfl)).setCell ⟨w.heap.size + 1, 7, none⟩ (.int .i64 (4)) (fun _ => rfl)).setCell ⟨w.heap.size + 1, 8, none⟩ (.slice yo yn yc) (fun _ => rfl)).setCell ⟨w.heap.size + 1, 9, none⟩ (.int .u32 (p)) (fun _ => rfl)).setCell ⟨w.heap.size + 1, 10, none⟩ (.int .u64 (0)) (fun _ => rfl)).setCell ⟨w.heap.size + 1, 11, none⟩ (.int .u32 (0)) (fun _ => rfl)).setCell ⟨w.heap.size + 1, 12, none⟩ (.int .i64 (yt)) (fun _ => rfl))
  replace hr := hcx.blk hr (by simp)
  replace hA := hcx.blk hA (by simp)
  replace hcL := hcL.trans (hcx.mono (fun q _ e => .inl e))
  replace hk := Below.trans hk (hcx.toBelow (B := w.heap.size) (by have := hk.size; omega) (fun q hq e => by omega))
  generalize ((((((((w8.setCell ⟨w.heap.size + 1, 5, none⟩ (.int .i64 (yk))).setCell ⟨w.heap.size + 1, 6, none⟩ (.int .i64 (1))).setCell ⟨w.heap.size + 1, 7, none⟩ (.int .i64 (4))).setCell ⟨w.heap.size + 1, 8, none⟩ (.slice yo yn yc)).setCell ⟨w.heap.size + 1, 9, none⟩ (.int .u32 (p))).setCell ⟨w.heap.size + 1, 10, none⟩ (.int .u64 (0))).setCell ⟨w.heap.size + 1, 11, none⟩ (.int .u32 (0))).setCell ⟨w.heap.size + 1, 12, none⟩ (.int .i64 (yt))) = w9 at *
  clear hcx hb
  have hb := hb9
  clear hb9
  have b0 := hb.cell 0
  have b1 := hb.cell 1
  have b2 := hb.cell 2
  have b3 := hb.cell 3
  have b4 := hb.cell 4
  have b5 := hb.cell 5
  have b6 := hb.cell 6
  have b7 := hb.cell 7
  have b8 := hb.cell 8
  have b9 := hb.cell 9
  have b10 := hb.cell 10
  have b11 := hb.cell 11
  have b12 := hb.cell 12
  have fb1 := hb.free 1
  simp only [List.getElem?_cons_zero, List.getElem?_cons_succ] at b0 b1 b2 b3 b4 b5 b6 b7 b8 b9 b10 b11 b12
  go_wp2_with fail
  clear b0 b1 b2 b3 b4 b5 b6 b7 b8 b9 b10 b11 b12 fb1
  have hb10 : Blk (w9.setCell ⟨w.heap.size + 1, 1, none⟩ (.int .i64 (4))) (w.heap.size + 1) 57 [.int .i64 (kind), .int .i64 (4), .slice to tn tc, .int .i64 (j), .int .i64 (p), .int .i64 (yk), .int .i64 (1), .int .i64 (4), .slice yo yn yc, .int .u32 (p), .int .u64 (0), .int .u32 (0), .int .i64 (yt)] := (hb.set' 1 (.int .i64 (4)) rfl)
  have hcx := ((Chg.refl (fun q => q = w.heap.size + 1) w9).setCell ⟨w.heap.size + 1, 1, none⟩ (.int .i64 (4)) (fun _ => rfl))
  replace hr := hcx.blk hr (by simp)
  replace hA := hcx.blk hA (by simp)
  replace hcL := hcL.trans (hcx.mono (fun q _ e => .inl e))
  replace hk := Below.trans hk (hcx.toBelow (B := w.heap.size) (by have := hk.size; omega) (fun q hq e => by omega))
  generalize (w9.setCell ⟨w.heap.size + 1, 1, none⟩ (.int .i64 (4))) = w10 at *
  clear hcx hb
  have hb := hb10
  clear hb10
  have b0 := hb.cell 0
  have b1 := hb.cell 1
  have b2 := hb.cell 2
  have b3 := hb.cell 3
  have b4 := hb.cell 4
  have b5 := hb.cell 5
  have b6 := hb.cell 6
  have b7 := hb.cell 7
  have b8 := hb.cell 8
  have b9 := hb.cell 9
  have b10 := hb.cell 10
  have b11 := hb.cell 11
  have b12 := hb.cell 12
  simp only [List.getElem?_cons_zero, List.getElem?_cons_succ] at b0 b1 b2 b3 b4 b5 b6 b7 b8 b9 b10 b11 b12
  have r0 := hr.cell 0
  have r1 := hr.cell 1
  have r2 := hr.cell 2
  have r3 := hr.cell 3
  have r4 := hr.cell 4
  have r5 := hr.cell 5
  have r6 := hr.cell 6
  have r7 := hr.cell 7
  have r8 := hr.cell 8
  have r9 := hr.cell 9
  have r10 := hr.cell 10
  have r11 := hr.cell 11
  have r12 := hr.cell 12
  have fr0 := hr.free 0
  have fr1 := hr.free 1
  have fr2 := hr.free 2
  have fr3 := hr.free 3
  have fr4 := hr.free 4
  have fr5 := hr.free 5
  have fr6 := hr.free 6
  have fr7 := hr.free 7
  have fr8 := hr.free 8
  have fr9 := hr.free 9
  have fr10 := hr.free 10
  have fr11 := hr.free 11
  have fr12 := hr.free 12
  simp only [List.getElem?_cons_zero, List.getElem?_cons_succ] at r0 r1 r2 r3 r4 r5 r6 r7 r8 r9 r10 r11 r12
  have hbD := hb.drew
  have hrD := hr.drew
  have d0 := hbD.cell 0
  have d1 := hbD.cell 1
  have d2 := hbD.cell 2
  have d3 := hbD.cell 3
  have d4 := hbD.cell 4
  have d5 := hbD.cell 5
  have d6 := hbD.cell 6
  have d7 := hbD.cell 7
  have d8 := hbD.cell 8
  have d9 := hbD.cell 9
  have d10 := hbD.cell 10
  have d11 := hbD.cell 11
  have d12 := hbD.cell 12
  simp only [List.getElem?_cons_zero, List.getElem?_cons_succ] at d0 d1 d2 d3 d4 d5 d6 d7 d8 d9 d10 d11 d12
  have s0 := hrD.cell 0
  have s1 := hrD.cell 1
  have s2 := hrD.cell 2
  have s3 := hrD.cell 3
  have s4 := hrD.cell 4
  have s5 := hrD.cell 5
  have s6 := hrD.cell 6
  have s7 := hrD.cell 7
  have s8 := hrD.cell 8
  have s9 := hrD.cell 9
  have s10 := hrD.cell 10
  have s11 := hrD.cell 11
  have s12 := hrD.cell 12
  have fs0 := hrD.free 0
  have fs1 := hrD.free 1
  have fs2 := hrD.free 2
  have fs3 := hrD.free 3
  have fs4 := hrD.free 4
  have fs5 := hrD.free 5
  have fs6 := hrD.free 6
  have fs7 := hrD.free 7
  have fs8 := hrD.free 8
  have fs9 := hrD.free 9
  have fs10 := hrD.free 10
  have fs11 := hrD.free 11
  have fs12 := hrD.free 12
  simp only [List.getElem?_cons_zero, List.getElem?_cons_succ] at s0 s1 s2 s3 s4 s5 s6 s7 s8 s9 s10 s11 s12
  go_wp2_with fail
  go_region
  have hr9 : Blk ((((((((((((((w10.setCell ⟨w.heap.size + 2, 0, none⟩ (.int .i64 (kind))).setCell ⟨w.heap.size + 2, 1, none⟩ (.int .i64 (4))).setCell ⟨w.heap.size + 2, 2, none⟩ (.slice to tn tc)).setCell ⟨w.heap.size + 2, 3, none⟩ (.int .i64 (j))).setCell ⟨w.heap.size + 2, 4, none⟩ (.int .i64 (p))).setCell ⟨w.heap.size + 2, 5, none⟩ (.int .i64 (yk))).setCell ⟨w.heap.size + 2, 6, none⟩ (.int .i64 (1))).setCell ⟨w.heap.size + 2, 7, none⟩ (.int .i64 (4))).setCell ⟨w.heap.size + 2, 8, none⟩ (.slice yo yn yc)).setCell ⟨w.heap.size + 2, 9, none⟩ (.int .u32 (p))).setCell ⟨w.heap.size + 2, 10, none⟩ (.int .u64 (0))).setCell ⟨w.heap.size + 2, 11, none⟩ (.int .u32 (0))).setCell ⟨w.heap.size + 2, 12, none⟩ (.int .i64 (yt)))).drew (w.heap.size + 2) 57 [.int .i64 (kind), .int .i64 (4), .slice to tn tc, .int .i64 (j), .int .i64 (p), .int .i64 (yk), .int .i64 (1), .int .i64 (4), .slice yo yn yc, .int .u32 (p), .int .u64 (0), .int .u32 (0), .int .i64 (yt)] := ((((((((((((((hr.set' 0 (.int .i64 (kind)) rfl).set' 1 (.int .i64 (4)) rfl).set' 2 (.slice to tn tc) rfl).set' 3 (.int .i64 (j)) rfl).set' 4 (.int .i64 (p)) rfl).set' 5 (.int .i64 (yk)) rfl).set' 6 (.int .i64 (1)) rfl).set' 7 (.int .i64 (4)) rfl).set' 8 (.slice yo yn yc) rfl).set' 9 (.int .u32 (p)) rfl).set' 10 (.int .u64 (0)) rfl).set' 11 (.int .u32 (0)) rfl).set' 12 (.int .i64 (yt)) rfl)).drew
  have hk9 : Kept w ((((((((((((((w10.setCell ⟨w.heap.size + 2, 0, none⟩ (.int .i64 (kind))).setCell ⟨w.heap.size + 2, 1, none⟩ (.int .i64 (4))).setCell ⟨w.heap.size + 2, 2, none⟩ (.slice to tn tc)).setCell ⟨w.heap.size + 2, 3, none⟩ (.int .i64 (j))).setCell ⟨w.heap.size + 2, 4, none⟩ (.int .i64 (p))).setCell ⟨w.heap.size + 2, 5, none⟩ (.int .i64 (yk))).setCell ⟨w.heap.size + 2, 6, none⟩ (.int .i64 (1))).setCell ⟨w.heap.size + 2, 7, none⟩ (.int .i64 (4))).setCell ⟨w.heap.size + 2, 8, none⟩ (.slice yo yn yc)).setCell ⟨w.heap.size + 2, 9, none⟩ (.int .u32 (p))).setCell ⟨w.heap.size + 2, 10, none⟩ (.int .u64 (0))).setCell ⟨w.heap.size + 2, 11, none⟩ (.int .u32 (0))).setCell ⟨w.heap.size + 2, 12, none⟩ (.int .i64 (yt)))).drew := Below.drew (Below.setCell (Below.setCell (Below.setCell (Below.setCell (Below.setCell (Below.setCell (Below.setCell (Below.setCell (Below.setCell (Below.setCell (Below.setCell (Below.setCell (Below.setCell hk (p := ⟨w.heap.size + 2, 0, none⟩) (by simp) _) (p := ⟨w.heap.size + 2, 1, none⟩) (by simp) _) (p := ⟨w.heap.size + 2, 2, none⟩) (by simp) _) (p := ⟨w.heap.size + 2, 3, none⟩) (by simp) _) (p := ⟨w.heap.size + 2, 4, none⟩) (by simp) _) (p := ⟨w.heap.size + 2, 5, none⟩) (by simp) _) (p := ⟨w.heap.size + 2, 6, none⟩) (by simp) _) (p := ⟨w.heap.size + 2, 7, none⟩) (by simp) _) (p := ⟨w.heap.size + 2, 8, none⟩) (by simp) _) (p := ⟨w.heap.size + 2, 9, none⟩) (by simp) _) (p := ⟨w.heap.size + 2, 10, none⟩) (by simp) _) (p := ⟨w.heap.size + 2, 11, none⟩) (by simp) _) (p := ⟨w.heap.size + 2, 12, none⟩) (by simp) _)
  have hc9 : Chg (fun q => q = w.heap.size + 1 ∨ q = w.heap.size + 2) w8 ((((((((((((((w10.setCell ⟨w.heap.size + 2, 0, none⟩ (.int .i64 (kind))).setCell ⟨w.heap.size + 2, 1, none⟩ (.int .i64 (4))).setCell ⟨w.heap.size + 2, 2, none⟩ (.slice to tn tc)).setCell ⟨w.heap.size + 2, 3, none⟩ (.int .i64 (j))).setCell ⟨w.heap.size + 2, 4, none⟩ (.int .i64 (p))).setCell ⟨w.heap.size + 2, 5, none⟩ (.int .i64 (yk))).setCell ⟨w.heap.size + 2, 6, none⟩ (.int .i64 (1))).setCell ⟨w.heap.size + 2, 7, none⟩ (.int .i64 (4))).setCell ⟨w.heap.size + 2, 8, none⟩ (.slice yo yn yc)).setCell ⟨w.heap.size + 2, 9, none⟩ (.int .u32 (p))).setCell ⟨w.heap.size + 2, 10, none⟩ (.int .u64 (0))).setCell ⟨w.heap.size + 2, 11, none⟩ (.int .u32 (0))).setCell ⟨w.heap.size + 2, 12, none⟩ (.int .i64 (yt)))).drew := (((((((((((((hcL.setCell ⟨w.heap.size + 2, 0, none⟩ (.int .i64 (kind)) (fun _ => .inr rfl)).setCell ⟨w.heap.size + 2, 1, none⟩ (.int .i64 (4)) (fun _ => .inr rfl)).setCell ⟨w.heap.size + 2, 2, none⟩ (.slice to tn tc) (fun _ => .inr rfl)).setCell ⟨w.heap.size + 2, 3, none⟩ (.int .i64 (j)) (fun _ => .inr rfl)).setCell ⟨w.heap.size + 2, 4, none⟩ (.int .i64 (p)) (fun _ => .inr rfl)).setCell ⟨w.heap.size + 2, 5, none⟩ (.int .i64 (yk)) (fun _ => .inr rfl)).setCell ⟨w.heap.size + 2, 6, none⟩ (.int .i64 (1)) (fun _ => .inr rfl)).setCell ⟨w.heap.size + 2, 7, none⟩ (.int .i64 (4)) (fun _ => .inr rfl)).setCell ⟨w.heap.size + 2, 8, none⟩ (.slice yo yn yc) (fun _ => .inr rfl)).setCell ⟨w.heap.size + 2, 9, none⟩ (.int .u32 (p)) (fun _ => .inr rfl)).setCell ⟨w.heap.size + 2, 10, none⟩ (.int .u64 (0)) (fun _ => .inr rfl)).setCell ⟨w.heap.size + 2, 11, none⟩ (.int .u32 (0)) (fun _ => .inr rfl)).setCell ⟨w.heap.size + 2, 12, none⟩ (.int .i64 (yt)) (fun _ => .inr rfl)).drew
  generalize ((((((((((((((w10.setCell ⟨w.heap.size + 2, 0, none⟩ (.int .i64 (kind))).setCell ⟨w.heap.size + 2, 1, none⟩ (.int .i64 (4))).setCell ⟨w.heap.size + 2, 2, none⟩ (.slice to tn tc)).setCell ⟨w.heap.size + 2, 3, none⟩ (.int .i64 (j))).setCell ⟨w.heap.size + 2, 4, none⟩ (.int .i64 (p))).setCell ⟨w.heap.size + 2, 5, none⟩ (.int .i64 (yk))).setCell ⟨w.heap.size + 2, 6, none⟩ (.int .i64 (1))).setCell ⟨w.heap.size + 2, 7, none⟩ (.int .i64 (4))).setCell ⟨w.heap.size + 2, 8, none⟩ (.slice yo yn yc)).setCell ⟨w.heap.size + 2, 9, none⟩ (.int .u32 (p))).setCell ⟨w.heap.size + 2, 10, none⟩ (.int .u64 (0))).setCell ⟨w.heap.size + 2, 11, none⟩ (.int .u32 (0))).setCell ⟨w.heap.size + 2, 12, none⟩ (.int .i64 (yt)))).drew = w9 at *
  clear b0 b1 b2 b3 b4 b5 b6 b7 b8 b9 b10 b11 b12  r0 r1 r2 r3 r4 r5 r6 r7 r8 r9 r10 r11 r12 fr0 fr1 fr2 fr3 fr4 fr5 fr6 fr7 fr8 fr9 fr10 fr11 fr12 d0 d1 d2 d3 d4 d5 d6 d7 d8 d9 d10 d11 d12  s0 s1 s2 s3 s4 s5 s6 s7 s8 s9 s10 s11 s12 fs0 fs1 fs2 fs3 fs4 fs5 fs6 fs7 fs8 fs9 fs10 fs11 fs12
  have k0 := hr9.cell 0
  have k1 := hr9.cell 1
  have k2 := hr9.cell 2
  have k3 := hr9.cell 3
  have k4 := hr9.cell 4
  have k5 := hr9.cell 5
  have k6 := hr9.cell 6
  have k7 := hr9.cell 7
  have k8 := hr9.cell 8
  have k9 := hr9.cell 9
  have k10 := hr9.cell 10
  have k11 := hr9.cell 11
  have k12 := hr9.cell 12
  simp only [List.getElem?_cons_zero, List.getElem?_cons_succ] at k0 k1 k2 k3 k4 k5 k6 k7 k8 k9 k10 k11 k12
  go_wp2_with fail
  exact bodyPost_ret (v := .tuple #[l', .agg ([.int .i64 (kind), .int .i64 (4), .slice to tn tc, .int .i64 (j), .int .i64 (p), .int .i64 (yk), .int .i64 (1), .int .i64 (4), .slice yo yn yc, .int .u32 (p), .int .u64 (0), .int .u32 (0), .int .i64 (yt)] : List Value).toArray]) (by simp [results, Tryz.results48, go_sem, k0, k1, k2, k3, k4, k5, k6, k7, k8, k9, k10, k11, k12]) rfl ⟨_, _, _, rfl, (HM.out w (Below.refl _ _)).past hl8 (by simp [mput_len]) (fun q e => by omega) hown hc9, ⟨⟨hp0, hp1⟩, ⟨hj0, hj1⟩, kind, yk, 1, 4, p, 0, 0, yt, rfl, HT.out _ hk9, ⟨yo, yn, yc, rfl⟩, fun _ => hx9.chg hc9 (fun _ g e hq => by have := hownk g e; simp at this; omega)⟩, hk9, fun g e => (hown g e).imp id (fun e => by omega), fun _ g e => .inr (by have := hownk g e; simp at this; omega)⟩

end Go.Proofs.YtfbcadknimfhjaaGreat
