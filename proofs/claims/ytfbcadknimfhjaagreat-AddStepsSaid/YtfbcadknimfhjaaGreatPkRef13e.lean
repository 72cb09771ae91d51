/- The document's add: any step; what begins: walked. -/
import Derived.Test.YtfbcadknimfhjaaGreatPkRef13b
import Derived.Test.YtfbcadknimfhjaaGreatPkRef13c
import Derived.Test.YtfbcadknimfhjaaGreatPkRef13d
namespace Go.Proofs.YtfbcadknimfhjaaGreat
open Go.RowKit

theorem step13_ref {c : Cfg} {i : Int} {mem : List Int} {s : AM} {a l v tv xv : Value} (w : World) (hg : Good c) (ha : MapV w c a) (h : R13 w v c i tv xv s) (hm : MemV w l mem) (hall : ∀ x ∈ mem, U x) (hlen : mem.length ≤ 20000) (hok : s.pc = .pool → PmOk s.put ∧ s.put.pc.fin = false) (hux : U s.task) :
    Calls Tryz.prog 17 #[a, l, v] w fun e w' => Did13 c i mem s l tv xv w w' e := by
  cases hp : s.pc
  · exact st13_done w hg ha h hm hall hlen hok hp
  · cases hf : (dqStep (endsOf c i) mem s.dq).2.pc.fin
    · exact st13_own_more w hg ha h hm hall hlen hok hp hf
    · by_cases ho : (dqStep (endsOf c i) mem s.dq).2.out = 2
      · exact st13_own_full w hg ha h hm hall hlen hok hp hux hf ho
      · exact st13_own_end w hg ha h hm hall hlen hok hp hf ho
  · cases hf : (pmStep c mem s.put).2.pc.fin
    · exact st13_pool_more w hg ha h hm hall hlen hok hp hf
    · exact st13_pool_end w hg ha h hm hall hlen hok hp hf

set_option maxRecDepth 8000 in
set_option maxHeartbeats 1600000 in
theorem ends13_ref {c : Cfg} {a : Value} (i : Int) (w : World) (hg : Good c) (ha : MapV w c a) :
    Calls Tryz.prog 24 #[a, .int .i64 c.dq, .int .i64 i] w fun e w' => e = .returned (.agg #[.int .i64 (endsOf c i).tp, .int .i64 (endsOf c i).bt, .int .i64 (endsOf c i).en, .int .i64 (endsOf c i).rm]) ∧ Kept w w' := by
  have H8 : Hid (placeT c ⟨8, i, 0⟩ = (endsOf c i).tp) := place_end hg i 0 (.inl rfl)
  have H9 : Hid (placeT c ⟨9, i, 0⟩ = (endsOf c i).bt) := place_end hg i 1 (.inr rfl)
  have H10 : Hid (placeT c ⟨10, i, 0⟩ = (endsOf c i).en) := place_entry hg i 0
  have H11 : Hid (c.dq = (endsOf c i).rm) := rfl
  rw [← H11.out]
  generalize (endsOf c i).tp = e0 at *
  generalize (endsOf c i).bt = e1 at *
  generalize (endsOf c i).en = e2 at *
  obtain ⟨va, rfl, hT⟩ := ha
  obtain ⟨ao, acap, rfl, _⟩ := hT.ex
  have HV : Hid (∀ W, Kept w W → MapV W c (.agg #[.slice ao (allT c).length acap, .int .i64 (manyI c)])) := fun W k => ⟨_, rfl, hT.kept k⟩
  clear hT H11
  generalize (allT c).length = ln at *
  generalize hcd : c.dq = e3 at *
  clear hcd
  have hA0 := Blk.new w 35 [.slice ao ln acap, .int .i64 (manyI c)]
  have hk0 : Kept w (w.alloc (.cells ([.slice ao ln acap, .int .i64 (manyI c)] : List Value).toArray 35)) := (Below.refl _ _).alloc (Nat.le_refl _) _
  have z0 : (w.alloc (.cells ([.slice ao ln acap, .int .i64 (manyI c)] : List Value).toArray 35)).heap.size = w.heap.size + 1 := by simp
  go_enter Tryz.func24, Tryz.ntmps24
  go_wp2_with fail
  generalize w.alloc (.cells ([.slice ao ln acap, .int .i64 (manyI c)] : List Value).toArray 35) = w1 at *
  have hr0 := Blk.new w1 47 [.int .i64 0, .int .i64 0, .int .i64 0, .int .i64 0]
  rw [z0] at hr0
  have hk1 : Kept w1 (w1.alloc (.cells ([.int .i64 0, .int .i64 0, .int .i64 0, .int .i64 0] : List Value).toArray 47)) := (Below.refl _ _).alloc (Nat.le_refl _) _
  have z1 : (w1.alloc (.cells ([.int .i64 0, .int .i64 0, .int .i64 0, .int .i64 0] : List Value).toArray 47)).heap.size = w.heap.size + 2 := by simp [z0]
  generalize w1.alloc (.cells ([.int .i64 0, .int .i64 0, .int .i64 0, .int .i64 0] : List Value).toArray 47) = w2 at *
  have hA := (hk1.blk hA0)
  have hr := hr0
  have hk : Kept w w2 := (hk0.trans' hk1)
  clear hA0 hr0 hk0 hk1 z0
  have zN : w2.heap.size = w.heap.size + 2 := z1
  clear z1
  have hAD := hA.drew
  have hrD := hr.drew
  have hkD : Kept w w2.drew := hk.drew
  have a0 := hA.cell 0
  have a1 := hA.cell 1
  simp only [List.getElem?_cons_zero, List.getElem?_cons_succ] at a0 a1
  have d0 := hAD.cell 0
  have d1 := hAD.cell 1
  simp only [List.getElem?_cons_zero, List.getElem?_cons_succ] at d0 d1
  go_wp2_with fail
  refine wp_region_z 11 (fun w' => w'.cell? ⟨w.heap.size, 0, none⟩ = some (.slice ao ln acap) ∧ w'.cell? ⟨w.heap.size, 1, none⟩ = some (.int .i64 (manyI c))) (by kernel_rfl) ?_
  refine wpAnyZ_take (i := 0) (v := ?v0z1) rfl (by kernel_rfl) (by kernel_rfl) (by kernel_rfl) (by kernel_rfl) (fun _ _ _ h => h) (Or.inl ⟨by rfl, ?hy0z1⟩) ⟨d0,d1⟩ ?_
  case hy0z1 => intro w hSw; (try dsimp only at hSw); first | (go_simp; done) | (go_simp; with_reducible rfl)
  try simp only [Act.put, List.setIfInBounds_toArray]
  refine wpAnyZ_take (i := 1) (v := ?v1z1) rfl (by kernel_rfl) (by kernel_rfl) (by kernel_rfl) (by kernel_rfl) (fun _ _ _ h => h) (Or.inl ⟨by rfl, ?hy1z1⟩) ⟨d0,d1⟩ ?_
  case hy1z1 => intro w hSw; (try dsimp only at hSw); first | (go_simp; done) | (go_simp; with_reducible rfl)
  try simp only [Act.put]
  refine wpAnyZ_take (i := 3) (v := ?v3z1) rfl (by kernel_rfl) (by kernel_rfl) (by kernel_rfl) (by kernel_rfl) (fun _ _ _ h => h) (Or.inl ⟨by rfl, ?hy3z1⟩) ⟨d0,d1⟩ ?_
  case hy3z1 => intro w hSw; (try dsimp only at hSw); first | (go_simp; done) | (go_simp; with_reducible rfl)
  try simp only [Act.put]
  refine wpAnyZ_take (i := 4) (v := ?v4z1) rfl (by kernel_rfl) (by kernel_rfl) (by kernel_rfl) (by kernel_rfl) (fun _ _ _ h => h) (Or.inl ⟨by rfl, ?hy4z1⟩) ⟨d0,d1⟩ ?_
  case hy4z1 => intro w hSw; (try dsimp only at hSw); first | (go_simp; done) | (go_simp; with_reducible rfl)
  try simp only [Act.put]
  refine wpAnyZ_take (i := 6) (v := ?v6z1) rfl (by kernel_rfl) (by kernel_rfl) (by kernel_rfl) (by kernel_rfl) (fun _ _ _ h => h) (Or.inl ⟨by rfl, ?hy6z1⟩) ⟨d0,d1⟩ ?_
  case hy6z1 => intro w hSw; (try dsimp only at hSw); first | (go_simp; done) | (go_simp; with_reducible rfl)
  try simp only [Act.put]
  refine wpAnyZ_take (i := 7) (v := ?v7z1) rfl (by kernel_rfl) (by kernel_rfl) (by kernel_rfl) (by kernel_rfl) (fun _ _ _ h => h) (Or.inl ⟨by rfl, ?hy7z1⟩) ⟨d0,d1⟩ ?_
  case hy7z1 => intro w hSw; (try dsimp only at hSw); first | (go_simp; done) | (go_simp; with_reducible rfl)
  try simp only [Act.put]
  refine wpAnyZ_take (i := 9) (v := ?v9z1) rfl (by kernel_rfl) (by kernel_rfl) (by kernel_rfl) (by kernel_rfl) (fun _ _ _ h => h) (Or.inl ⟨by rfl, ?hy9z1⟩) ⟨d0,d1⟩ ?_
  case hy9z1 => intro w hSw; (try dsimp only at hSw); first | (go_simp; done) | (go_simp; with_reducible rfl)
  try simp only [Act.put]
  refine wpAnyZ_one (i := 2) (by kernel_rfl) rfl (fun K hK => ?_)
  go_simp
  go_at_call 54
  refine (at_ref 8 i 0 _ (HV.out _ hkD)).mono ?_; rintro r w5 ⟨rfl, hkc⟩
  rw [H8.out]
  have hA5 := hkc.blk hAD
  have hr5 := hkc.blk hrD
  have hk5 := Kept.trans' hkD hkc
  clear hkc
  have x0 := hA5.cell 0
  have x1 := hA5.cell 1
  simp only [List.getElem?_cons_zero, List.getElem?_cons_succ] at x0 x1
  refine hK.out _ _ (fun _ => ⟨x0,x1⟩) ?_
  clear hK K
  try simp only [Act.put, List.setIfInBounds_toArray, List.set_cons_zero, List.set_cons_succ]
  refine wpAnyZ_one (i := 5) (by kernel_rfl) rfl (fun K hK => ?_)
  go_simp
  go_at_call 54
  refine (at_ref 9 i 0 _ (HV.out _ hk5)).mono ?_; rintro r w6 ⟨rfl, hkc⟩
  rw [H9.out]
  have hA6 := hkc.blk hA5
  have hr6 := hkc.blk hr5
  have hk6 := Kept.trans' hk5 hkc
  clear hkc
  have y0 := hA6.cell 0
  have y1 := hA6.cell 1
  simp only [List.getElem?_cons_zero, List.getElem?_cons_succ] at y0 y1
  refine hK.out _ _ (fun _ => ⟨y0,y1⟩) ?_
  clear hK K
  try simp only [Act.put, List.setIfInBounds_toArray, List.set_cons_zero, List.set_cons_succ]
  refine wpAnyZ_one (i := 8) (by kernel_rfl) rfl (fun K hK => ?_)
  go_simp
  go_at_call 54
  refine (at_ref 10 i 0 _ (HV.out _ hk6)).mono ?_; rintro r w7 ⟨rfl, hkc⟩
  rw [H10.out]
  have hA7 := hkc.blk hA6
  have hr7 := hkc.blk hr6
  have hk7 := Kept.trans' hk6 hkc
  clear hkc
  have g0 := hA7.cell 0
  have g1 := hA7.cell 1
  simp only [List.getElem?_cons_zero, List.getElem?_cons_succ] at g0 g1
  have q0 := hr7.cell 0
  have q1 := hr7.cell 1
  have q2 := hr7.cell 2
  have q3 := hr7.cell 3
  have fq0 := hr7.free 0
  have fq1 := hr7.free 1
  have fq2 := hr7.free 2
  have fq3 := hr7.free 3
  simp only [List.getElem?_cons_zero, List.getElem?_cons_succ] at q0 q1 q2 q3
  refine hK.out _ _ (fun _ => ⟨g0,g1⟩) ?_
  clear hK K
  try simp only [Act.put, List.setIfInBounds_toArray, List.set_cons_zero, List.set_cons_succ]
  refine wpAnyZ_one (i := 10) (by kernel_rfl) rfl (fun K hK => ?_)
  go_simp
  refine hK.out _ _ (fun _ => ⟨g0,g1⟩) ?_
  clear hK K
  try simp only [Act.put, List.setIfInBounds_toArray, List.set_cons_zero, List.set_cons_succ]
  refine wpAnyZ_one (i := 11) (by kernel_rfl) rfl (fun K hK => ?_)
  go_simp
  refine hK.out _ _ (fun h => absurd rfl h) ?_
  refine wpAnyZ_done (by kernel_rfl) ?_ _
  clear hK K
  clear a0 a1 d0 d1 x0 x1 y0 y1 g0 g1 q0 q1 q2 q3 fq0 fq1 fq2 fq3 hA hr hk hAD hrD hkD hA5 hr5 hk5 hA6 hr6 hk6
  have hr := hr7
  have hk := hk7
  clear hr7 hk7 hA7
  have hr9 : Blk ((((w7.setCell ⟨w.heap.size + 1, 0, none⟩ (.int .i64 (e0))).setCell ⟨w.heap.size + 1, 1, none⟩ (.int .i64 (e1))).setCell ⟨w.heap.size + 1, 2, none⟩ (.int .i64 (e2))).setCell ⟨w.heap.size + 1, 3, none⟩ (.int .i64 (e3))) (w.heap.size + 1) 47 [.int .i64 (e0), .int .i64 (e1), .int .i64 (e2), .int .i64 (e3)] := ((((hr.set' 0 (.int .i64 (e0)) rfl).set' 1 (.int .i64 (e1)) rfl).set' 2 (.int .i64 (e2)) rfl).set' 3 (.int .i64 (e3)) rfl)
  have hk9 : Kept w ((((w7.setCell ⟨w.heap.size + 1, 0, none⟩ (.int .i64 (e0))).setCell ⟨w.heap.size + 1, 1, none⟩ (.int .i64 (e1))).setCell ⟨w.heap.size + 1, 2, none⟩ (.int .i64 (e2))).setCell ⟨w.heap.size + 1, 3, none⟩ (.int .i64 (e3))) := (Below.setCell (Below.setCell (Below.setCell (Below.setCell hk (p := ⟨w.heap.size + 1, 0, none⟩) (by simp <;> omega) _) (p := ⟨w.heap.size + 1, 1, none⟩) (by simp <;> omega) _) (p := ⟨w.heap.size + 1, 2, none⟩) (by simp <;> omega) _) (p := ⟨w.heap.size + 1, 3, none⟩) (by simp <;> omega) _)
  have hc9 : Chg (fun q => q = w.heap.size + 1) w7 ((((w7.setCell ⟨w.heap.size + 1, 0, none⟩ (.int .i64 (e0))).setCell ⟨w.heap.size + 1, 1, none⟩ (.int .i64 (e1))).setCell ⟨w.heap.size + 1, 2, none⟩ (.int .i64 (e2))).setCell ⟨w.heap.size + 1, 3, none⟩ (.int .i64 (e3))) := (((((Chg.refl (fun q => q = w.heap.size + 1) w7).setCell ⟨w.heap.size + 1, 0, none⟩ (.int .i64 (e0)) (fun _ => rfl)).setCell ⟨w.heap.size + 1, 1, none⟩ (.int .i64 (e1)) (fun _ => rfl)).setCell ⟨w.heap.size + 1, 2, none⟩ (.int .i64 (e2)) (fun _ => rfl)).setCell ⟨w.heap.size + 1, 3, none⟩ (.int .i64 (e3)) (fun _ => rfl))
  generalize ((((w7.setCell ⟨w.heap.size + 1, 0, none⟩ (.int .i64 (e0))).setCell ⟨w.heap.size + 1, 1, none⟩ (.int .i64 (e1))).setCell ⟨w.heap.size + 1, 2, none⟩ (.int .i64 (e2))).setCell ⟨w.heap.size + 1, 3, none⟩ (.int .i64 (e3))) = w99 at *
  go_wp2_with fail
  exact bodyPost_ret (v := .agg ([.int .i64 (e0), .int .i64 (e1), .int .i64 (e2), .int .i64 (e3)] : List Value).toArray) (results_c (l := [.int .i64 (e0), .int .i64 (e1), .int .i64 (e2), .int .i64 (e3)]) Tryz.results24 rfl hr9 _ Tryz.underlying47 rfl (by kernel_rfl)) rfl ⟨rfl, hk9⟩

set_option maxRecDepth 8000 in
set_option maxHeartbeats 1600000 in
theorem new13_none {c : Cfg} {a : Value} (i x : Int) (w : World) (hg : Good c) (ha : MapV w c a) (hx : U x) (hi : ¬ (0 ≤ i ∧ i < c.mks)) :
    Calls Tryz.prog 14 #[a, .agg #[.int .i64 c.c0, .int .i64 c.c1, .int .i64 c.c2, .int .i64 c.c3, .int .i64 c.c4, .int .i64 c.mks, .int .i64 c.mus, .int .i64 c.dq, .int .i64 c.ch, .int .i64 c.bu, .int .i64 c.ro, .int .i64 c.sw], .int .i64 i, .int .u64 x] w fun e w' => ∃ v, e = .returned v ∧ R13 w' v c i (.slice none 0 0) (.slice none 0 0) (newAM c i x) ∧ Kept w w' := by
  obtain ⟨va, rfl, hT⟩ := ha
  obtain ⟨ao, acap, rfl, _⟩ := hT.ex
  have HV : Hid (∀ W, Kept w W → MapV W c (.agg #[.slice ao (allT c).length acap, .int .i64 (manyI c)])) := fun W k => ⟨_, rfl, hT.kept k⟩
  clear hT
  generalize (allT c).length = ln at *
  have Hg : Hid (Good c) := hg
  have HX : Hid (U x) := hx
  have HN : Hid (newAM c i x = ⟨.done, x, ⟨.pushBottom, 0, 0, x, 0, false⟩, putOne x, false⟩) := by unfold Hid newAM; rw [if_neg hi]
  rw [HN.out]
  clear hg hx
  by_cases h0 : i < 0
  · clear hi
    have hA0 := Blk.new w 35 [.slice ao ln acap, .int .i64 (manyI c)]
    have hk0 : Kept w (w.alloc (.cells ([.slice ao ln acap, .int .i64 (manyI c)] : List Value).toArray 35)) := (Below.refl _ _).alloc (Nat.le_refl _) _
    have z0 : (w.alloc (.cells ([.slice ao ln acap, .int .i64 (manyI c)] : List Value).toArray 35)).heap.size = w.heap.size + 1 := by simp
    go_enter Tryz.func14, Tryz.ntmps14
    go_upto_region 2 with fail
    generalize w.alloc (.cells ([.slice ao ln acap, .int .i64 (manyI c)] : List Value).toArray 35) = w1 at *
    have hC0 := Blk.new w1 37 [.int .i64 (c.c0), .int .i64 (c.c1), .int .i64 (c.c2), .int .i64 (c.c3), .int .i64 (c.c4), .int .i64 (c.mks), .int .i64 (c.mus), .int .i64 (c.dq), .int .i64 (c.ch), .int .i64 (c.bu), .int .i64 (c.ro), .int .i64 (c.sw)]
    rw [z0] at hC0
    have hk1 : Kept w1 (w1.alloc (.cells ([.int .i64 (c.c0), .int .i64 (c.c1), .int .i64 (c.c2), .int .i64 (c.c3), .int .i64 (c.c4), .int .i64 (c.mks), .int .i64 (c.mus), .int .i64 (c.dq), .int .i64 (c.ch), .int .i64 (c.bu), .int .i64 (c.ro), .int .i64 (c.sw)] : List Value).toArray 37)) := (Below.refl _ _).alloc (Nat.le_refl _) _
    have z1 : (w1.alloc (.cells ([.int .i64 (c.c0), .int .i64 (c.c1), .int .i64 (c.c2), .int .i64 (c.c3), .int .i64 (c.c4), .int .i64 (c.mks), .int .i64 (c.mus), .int .i64 (c.dq), .int .i64 (c.ch), .int .i64 (c.bu), .int .i64 (c.ro), .int .i64 (c.sw)] : List Value).toArray 37)).heap.size = w.heap.size + 2 := by simp [z0]
    generalize w1.alloc (.cells ([.int .i64 (c.c0), .int .i64 (c.c1), .int .i64 (c.c2), .int .i64 (c.c3), .int .i64 (c.c4), .int .i64 (c.mks), .int .i64 (c.mus), .int .i64 (c.dq), .int .i64 (c.ch), .int .i64 (c.bu), .int .i64 (c.ro), .int .i64 (c.sw)] : List Value).toArray 37) = w2 at *
    have hr0 := Blk.new w2 59 [.int .i64 0, .int .u64 0, .int .i64 0, .int .i64 0, .int .i64 0, .int .i64 0, .int .i64 0, .int .i64 0, .int .u64 0, .int .u64 0, .int .u64 0, .bool false, .int .i64 0, .int .i64 0, .int .i64 0, .slice none 0 0, .int .i64 0, .int .i64 0, .int .i64 0, .int .i64 0, .int .i64 0, .slice none 0 0, .int .u32 0, .int .u64 0, .int .u32 0, .int .i64 0, .bool false]
    rw [z1] at hr0
    have hk2 : Kept w2 (w2.alloc (.cells ([.int .i64 0, .int .u64 0, .int .i64 0, .int .i64 0, .int .i64 0, .int .i64 0, .int .i64 0, .int .i64 0, .int .u64 0, .int .u64 0, .int .u64 0, .bool false, .int .i64 0, .int .i64 0, .int .i64 0, .slice none 0 0, .int .i64 0, .int .i64 0, .int .i64 0, .int .i64 0, .int .i64 0, .slice none 0 0, .int .u32 0, .int .u64 0, .int .u32 0, .int .i64 0, .bool false] : List Value).toArray 59)) := (Below.refl _ _).alloc (Nat.le_refl _) _
    have z2 : (w2.alloc (.cells ([.int .i64 0, .int .u64 0, .int .i64 0, .int .i64 0, .int .i64 0, .int .i64 0, .int .i64 0, .int .i64 0, .int .u64 0, .int .u64 0, .int .u64 0, .bool false, .int .i64 0, .int .i64 0, .int .i64 0, .slice none 0 0, .int .i64 0, .int .i64 0, .int .i64 0, .int .i64 0, .int .i64 0, .slice none 0 0, .int .u32 0, .int .u64 0, .int .u32 0, .int .i64 0, .bool false] : List Value).toArray 59)).heap.size = w.heap.size + 3 := by simp [z1]
    generalize w2.alloc (.cells ([.int .i64 0, .int .u64 0, .int .i64 0, .int .i64 0, .int .i64 0, .int .i64 0, .int .i64 0, .int .i64 0, .int .u64 0, .int .u64 0, .int .u64 0, .bool false, .int .i64 0, .int .i64 0, .int .i64 0, .slice none 0 0, .int .i64 0, .int .i64 0, .int .i64 0, .int .i64 0, .int .i64 0, .slice none 0 0, .int .u32 0, .int .u64 0, .int .u32 0, .int .i64 0, .bool false] : List Value).toArray 59) = w3 at *
    have hA := (hk2.blk (hk1.blk hA0))
    have hC := (hk2.blk hC0)
    have hr := hr0
    have hk : Kept w w3 := ((hk0.trans' hk1).trans' hk2)
    clear hA0 hC0 hr0 hk0 hk1 hk2 z0 z1
    have zN : w3.heap.size = w.heap.size + 3 := z2
    clear z2
    go_wp2_with (refine wpList_store_row rfl 59 _ _ rfl hr 0 rfl [.int .i64 (0), .int .u64 (0), .int .i64 (0), .int .i64 (0), .int .i64 (0), .int .i64 (0), .int .i64 (0), .int .i64 (0), .int .u64 (0), .int .u64 (0), .int .u64 (0), .bool (false), .int .i64 (0), .int .i64 (0), .int .i64 (0), .slice none 0 0, .int .i64 (0), .int .i64 (0), .int .i64 (0), .int .i64 (0), .int .i64 (0), .slice none 0 0, .int .u32 (0), .int .u64 (0), .int .u32 (0), .int .i64 (0), .bool (false)] [.int .i64 (0), .int .u64 (0), .int .i64 (0), .int .i64 (0), .int .i64 (0), .int .i64 (0), .int .i64 (0), .int .i64 (0), .int .u64 (0), .int .u64 (0), .int .u64 (0), .bool (false), .int .i64 (0), .int .i64 (0), .int .i64 (0), .slice none 0 0, .int .i64 (0), .int .i64 (0), .int .i64 (0), .int .i64 (0), .int .i64 (0), .slice none 0 0, .int .u32 (0), .int .u64 (0), .int .u32 (0), .int .i64 (0), .bool (false)] rfl rfl (by simp) rfl (by kernel_rfl) ?_)
    have hr9 : Blk (w3.setRow (w.heap.size + 2) ([.int .i64 (0), .int .u64 (0), .int .i64 (0), .int .i64 (0), .int .i64 (0), .int .i64 (0), .int .i64 (0), .int .i64 (0), .int .u64 (0), .int .u64 (0), .int .u64 (0), .bool (false), .int .i64 (0), .int .i64 (0), .int .i64 (0), .slice none 0 0, .int .i64 (0), .int .i64 (0), .int .i64 (0), .int .i64 (0), .int .i64 (0), .slice none 0 0, .int .u32 (0), .int .u64 (0), .int .u32 (0), .int .i64 (0), .bool (false)] : List Value).toArray) (w.heap.size + 2) 59 [.int .i64 (0), .int .u64 (0), .int .i64 (0), .int .i64 (0), .int .i64 (0), .int .i64 (0), .int .i64 (0), .int .i64 (0), .int .u64 (0), .int .u64 (0), .int .u64 (0), .bool (false), .int .i64 (0), .int .i64 (0), .int .i64 (0), .slice none 0 0, .int .i64 (0), .int .i64 (0), .int .i64 (0), .int .i64 (0), .int .i64 (0), .slice none 0 0, .int .u32 (0), .int .u64 (0), .int .u32 (0), .int .i64 (0), .bool (false)] := Blk.setRow hr _
    have hk9 : Kept w (w3.setRow (w.heap.size + 2) ([.int .i64 (0), .int .u64 (0), .int .i64 (0), .int .i64 (0), .int .i64 (0), .int .i64 (0), .int .i64 (0), .int .i64 (0), .int .u64 (0), .int .u64 (0), .int .u64 (0), .bool (false), .int .i64 (0), .int .i64 (0), .int .i64 (0), .slice none 0 0, .int .i64 (0), .int .i64 (0), .int .i64 (0), .int .i64 (0), .int .i64 (0), .slice none 0 0, .int .u32 (0), .int .u64 (0), .int .u32 (0), .int .i64 (0), .bool (false)] : List Value).toArray) := Below.setRow hk _ (by omega)
    have hc9 : Chg (fun q => q = w.heap.size + 2) w3 (w3.setRow (w.heap.size + 2) ([.int .i64 (0), .int .u64 (0), .int .i64 (0), .int .i64 (0), .int .i64 (0), .int .i64 (0), .int .i64 (0), .int .i64 (0), .int .u64 (0), .int .u64 (0), .int .u64 (0), .bool (false), .int .i64 (0), .int .i64 (0), .int .i64 (0), .slice none 0 0, .int .i64 (0), .int .i64 (0), .int .i64 (0), .int .i64 (0), .int .i64 (0), .slice none 0 0, .int .u32 (0), .int .u64 (0), .int .u32 (0), .int .i64 (0), .bool (false)] : List Value).toArray) := Chg.setRow (Chg.refl _ _) _ _ (fun _ => rfl)
    exact bodyPost_ret (v := .agg ([.int .i64 (0), .int .u64 (0), .int .i64 (0), .int .i64 (0), .int .i64 (0), .int .i64 (0), .int .i64 (0), .int .i64 (0), .int .u64 (0), .int .u64 (0), .int .u64 (0), .bool (false), .int .i64 (0), .int .i64 (0), .int .i64 (0), .slice none 0 0, .int .i64 (0), .int .i64 (0), .int .i64 (0), .int .i64 (0), .int .i64 (0), .slice none 0 0, .int .u32 (0), .int .u64 (0), .int .u32 (0), .int .i64 (0), .bool (false)] : List Value).toArray) (results_c (l := [.int .i64 (0), .int .u64 (0), .int .i64 (0), .int .i64 (0), .int .i64 (0), .int .i64 (0), .int .i64 (0), .int .i64 (0), .int .u64 (0), .int .u64 (0), .int .u64 (0), .bool (false), .int .i64 (0), .int .i64 (0), .int .i64 (0), .slice none 0 0, .int .i64 (0), .int .i64 (0), .int .i64 (0), .int .i64 (0), .int .i64 (0), .slice none 0 0, .int .u32 (0), .int .u64 (0), .int .u32 (0), .int .i64 (0), .bool (false)]) Tryz.results14 rfl hr9 _ Tryz.underlying59 rfl (by kernel_rfl)) rfl ⟨_, rfl, ⟨⟨_, _, _, _, _, _, _, _, _, _, _, _, _, _, _, _, _, _, _, _, _, _, _, rfl, fun e => (by cases e), fun e => (by cases e)⟩, ⟨_, _, _, rfl⟩, ⟨_, _, _, rfl⟩, fun e => (by cases e)⟩, hk9⟩
  · have h1 : i ≥ c.mks := by omega
    clear hi
    have hA0 := Blk.new w 35 [.slice ao ln acap, .int .i64 (manyI c)]
    have hk0 : Kept w (w.alloc (.cells ([.slice ao ln acap, .int .i64 (manyI c)] : List Value).toArray 35)) := (Below.refl _ _).alloc (Nat.le_refl _) _
    have z0 : (w.alloc (.cells ([.slice ao ln acap, .int .i64 (manyI c)] : List Value).toArray 35)).heap.size = w.heap.size + 1 := by simp
    go_enter Tryz.func14, Tryz.ntmps14
    go_upto_region 2 with fail
    generalize w.alloc (.cells ([.slice ao ln acap, .int .i64 (manyI c)] : List Value).toArray 35) = w1 at *
    have hC0 := Blk.new w1 37 [.int .i64 (c.c0), .int .i64 (c.c1), .int .i64 (c.c2), .int .i64 (c.c3), .int .i64 (c.c4), .int .i64 (c.mks), .int .i64 (c.mus), .int .i64 (c.dq), .int .i64 (c.ch), .int .i64 (c.bu), .int .i64 (c.ro), .int .i64 (c.sw)]
    rw [z0] at hC0
    have hk1 : Kept w1 (w1.alloc (.cells ([.int .i64 (c.c0), .int .i64 (c.c1), .int .i64 (c.c2), .int .i64 (c.c3), .int .i64 (c.c4), .int .i64 (c.mks), .int .i64 (c.mus), .int .i64 (c.dq), .int .i64 (c.ch), .int .i64 (c.bu), .int .i64 (c.ro), .int .i64 (c.sw)] : List Value).toArray 37)) := (Below.refl _ _).alloc (Nat.le_refl _) _
    have z1 : (w1.alloc (.cells ([.int .i64 (c.c0), .int .i64 (c.c1), .int .i64 (c.c2), .int .i64 (c.c3), .int .i64 (c.c4), .int .i64 (c.mks), .int .i64 (c.mus), .int .i64 (c.dq), .int .i64 (c.ch), .int .i64 (c.bu), .int .i64 (c.ro), .int .i64 (c.sw)] : List Value).toArray 37)).heap.size = w.heap.size + 2 := by simp [z0]
    generalize w1.alloc (.cells ([.int .i64 (c.c0), .int .i64 (c.c1), .int .i64 (c.c2), .int .i64 (c.c3), .int .i64 (c.c4), .int .i64 (c.mks), .int .i64 (c.mus), .int .i64 (c.dq), .int .i64 (c.ch), .int .i64 (c.bu), .int .i64 (c.ro), .int .i64 (c.sw)] : List Value).toArray 37) = w2 at *
    have hr0 := Blk.new w2 59 [.int .i64 0, .int .u64 0, .int .i64 0, .int .i64 0, .int .i64 0, .int .i64 0, .int .i64 0, .int .i64 0, .int .u64 0, .int .u64 0, .int .u64 0, .bool false, .int .i64 0, .int .i64 0, .int .i64 0, .slice none 0 0, .int .i64 0, .int .i64 0, .int .i64 0, .int .i64 0, .int .i64 0, .slice none 0 0, .int .u32 0, .int .u64 0, .int .u32 0, .int .i64 0, .bool false]
    rw [z1] at hr0
    have hk2 : Kept w2 (w2.alloc (.cells ([.int .i64 0, .int .u64 0, .int .i64 0, .int .i64 0, .int .i64 0, .int .i64 0, .int .i64 0, .int .i64 0, .int .u64 0, .int .u64 0, .int .u64 0, .bool false, .int .i64 0, .int .i64 0, .int .i64 0, .slice none 0 0, .int .i64 0, .int .i64 0, .int .i64 0, .int .i64 0, .int .i64 0, .slice none 0 0, .int .u32 0, .int .u64 0, .int .u32 0, .int .i64 0, .bool false] : List Value).toArray 59)) := (Below.refl _ _).alloc (Nat.le_refl _) _
    have z2 : (w2.alloc (.cells ([.int .i64 0, .int .u64 0, .int .i64 0, .int .i64 0, .int .i64 0, .int .i64 0, .int .i64 0, .int .i64 0, .int .u64 0, .int .u64 0, .int .u64 0, .bool false, .int .i64 0, .int .i64 0, .int .i64 0, .slice none 0 0, .int .i64 0, .int .i64 0, .int .i64 0, .int .i64 0, .int .i64 0, .slice none 0 0, .int .u32 0, .int .u64 0, .int .u32 0, .int .i64 0, .bool false] : List Value).toArray 59)).heap.size = w.heap.size + 3 := by simp [z1]
    generalize w2.alloc (.cells ([.int .i64 0, .int .u64 0, .int .i64 0, .int .i64 0, .int .i64 0, .int .i64 0, .int .i64 0, .int .i64 0, .int .u64 0, .int .u64 0, .int .u64 0, .bool false, .int .i64 0, .int .i64 0, .int .i64 0, .slice none 0 0, .int .i64 0, .int .i64 0, .int .i64 0, .int .i64 0, .int .i64 0, .slice none 0 0, .int .u32 0, .int .u64 0, .int .u32 0, .int .i64 0, .bool false] : List Value).toArray 59) = w3 at *
    have hA := (hk2.blk (hk1.blk hA0))
    have hC := (hk2.blk hC0)
    have hr := hr0
    have hk : Kept w w3 := ((hk0.trans' hk1).trans' hk2)
    clear hA0 hC0 hr0 hk0 hk1 hk2 z0 z1
    have zN : w3.heap.size = w.heap.size + 3 := z2
    clear z2
    go_wp2_with (refine wpList_store_row rfl 59 _ _ rfl hr 0 rfl [.int .i64 (0), .int .u64 (0), .int .i64 (0), .int .i64 (0), .int .i64 (0), .int .i64 (0), .int .i64 (0), .int .i64 (0), .int .u64 (0), .int .u64 (0), .int .u64 (0), .bool (false), .int .i64 (0), .int .i64 (0), .int .i64 (0), .slice none 0 0, .int .i64 (0), .int .i64 (0), .int .i64 (0), .int .i64 (0), .int .i64 (0), .slice none 0 0, .int .u32 (0), .int .u64 (0), .int .u32 (0), .int .i64 (0), .bool (false)] [.int .i64 (0), .int .u64 (0), .int .i64 (0), .int .i64 (0), .int .i64 (0), .int .i64 (0), .int .i64 (0), .int .i64 (0), .int .u64 (0), .int .u64 (0), .int .u64 (0), .bool (false), .int .i64 (0), .int .i64 (0), .int .i64 (0), .slice none 0 0, .int .i64 (0), .int .i64 (0), .int .i64 (0), .int .i64 (0), .int .i64 (0), .slice none 0 0, .int .u32 (0), .int .u64 (0), .int .u32 (0), .int .i64 (0), .bool (false)] rfl rfl (by simp) rfl (by kernel_rfl) ?_)
    have hr9 : Blk (w3.setRow (w.heap.size + 2) ([.int .i64 (0), .int .u64 (0), .int .i64 (0), .int .i64 (0), .int .i64 (0), .int .i64 (0), .int .i64 (0), .int .i64 (0), .int .u64 (0), .int .u64 (0), .int .u64 (0), .bool (false), .int .i64 (0), .int .i64 (0), .int .i64 (0), .slice none 0 0, .int .i64 (0), .int .i64 (0), .int .i64 (0), .int .i64 (0), .int .i64 (0), .slice none 0 0, .int .u32 (0), .int .u64 (0), .int .u32 (0), .int .i64 (0), .bool (false)] : List Value).toArray) (w.heap.size + 2) 59 [.int .i64 (0), .int .u64 (0), .int .i64 (0), .int .i64 (0), .int .i64 (0), .int .i64 (0), .int .i64 (0), .int .i64 (0), .int .u64 (0), .int .u64 (0), .int .u64 (0), .bool (false), .int .i64 (0), .int .i64 (0), .int .i64 (0), .slice none 0 0, .int .i64 (0), .int .i64 (0), .int .i64 (0), .int .i64 (0), .int .i64 (0), .slice none 0 0, .int .u32 (0), .int .u64 (0), .int .u32 (0), .int .i64 (0), .bool (false)] := Blk.setRow hr _
    have hk9 : Kept w (w3.setRow (w.heap.size + 2) ([.int .i64 (0), .int .u64 (0), .int .i64 (0), .int .i64 (0), .int .i64 (0), .int .i64 (0), .int .i64 (0), .int .i64 (0), .int .u64 (0), .int .u64 (0), .int .u64 (0), .bool (false), .int .i64 (0), .int .i64 (0), .int .i64 (0), .slice none 0 0, .int .i64 (0), .int .i64 (0), .int .i64 (0), .int .i64 (0), .int .i64 (0), .slice none 0 0, .int .u32 (0), .int .u64 (0), .int .u32 (0), .int .i64 (0), .bool (false)] : List Value).toArray) := Below.setRow hk _ (by omega)
    have hc9 : Chg (fun q => q = w.heap.size + 2) w3 (w3.setRow (w.heap.size + 2) ([.int .i64 (0), .int .u64 (0), .int .i64 (0), .int .i64 (0), .int .i64 (0), .int .i64 (0), .int .i64 (0), .int .i64 (0), .int .u64 (0), .int .u64 (0), .int .u64 (0), .bool (false), .int .i64 (0), .int .i64 (0), .int .i64 (0), .slice none 0 0, .int .i64 (0), .int .i64 (0), .int .i64 (0), .int .i64 (0), .int .i64 (0), .slice none 0 0, .int .u32 (0), .int .u64 (0), .int .u32 (0), .int .i64 (0), .bool (false)] : List Value).toArray) := Chg.setRow (Chg.refl _ _) _ _ (fun _ => rfl)
    exact bodyPost_ret (v := .agg ([.int .i64 (0), .int .u64 (0), .int .i64 (0), .int .i64 (0), .int .i64 (0), .int .i64 (0), .int .i64 (0), .int .i64 (0), .int .u64 (0), .int .u64 (0), .int .u64 (0), .bool (false), .int .i64 (0), .int .i64 (0), .int .i64 (0), .slice none 0 0, .int .i64 (0), .int .i64 (0), .int .i64 (0), .int .i64 (0), .int .i64 (0), .slice none 0 0, .int .u32 (0), .int .u64 (0), .int .u32 (0), .int .i64 (0), .bool (false)] : List Value).toArray) (results_c (l := [.int .i64 (0), .int .u64 (0), .int .i64 (0), .int .i64 (0), .int .i64 (0), .int .i64 (0), .int .i64 (0), .int .i64 (0), .int .u64 (0), .int .u64 (0), .int .u64 (0), .bool (false), .int .i64 (0), .int .i64 (0), .int .i64 (0), .slice none 0 0, .int .i64 (0), .int .i64 (0), .int .i64 (0), .int .i64 (0), .int .i64 (0), .slice none 0 0, .int .u32 (0), .int .u64 (0), .int .u32 (0), .int .i64 (0), .bool (false)]) Tryz.results14 rfl hr9 _ Tryz.underlying59 rfl (by kernel_rfl)) rfl ⟨_, rfl, ⟨⟨_, _, _, _, _, _, _, _, _, _, _, _, _, _, _, _, _, _, _, _, _, _, _, rfl, fun e => (by cases e), fun e => (by cases e)⟩, ⟨_, _, _, rfl⟩, ⟨_, _, _, rfl⟩, fun e => (by cases e)⟩, hk9⟩

set_option maxRecDepth 8000 in
set_option maxHeartbeats 1600000 in
theorem new13_some {c : Cfg} {a : Value} (i x : Int) (w : World) (hg : Good c) (ha : MapV w c a) (hx : U x) (hi : (0 ≤ i ∧ i < c.mks)) :
    Calls Tryz.prog 14 #[a, .agg #[.int .i64 c.c0, .int .i64 c.c1, .int .i64 c.c2, .int .i64 c.c3, .int .i64 c.c4, .int .i64 c.mks, .int .i64 c.mus, .int .i64 c.dq, .int .i64 c.ch, .int .i64 c.bu, .int .i64 c.ro, .int .i64 c.sw], .int .i64 i, .int .u64 x] w fun e w' => ∃ v, e = .returned v ∧ R13 w' v c i (.slice none 0 0) (.slice none 0 0) (newAM c i x) ∧ Kept w w' := by
  obtain ⟨va, rfl, hT⟩ := ha
  obtain ⟨ao, acap, rfl, _⟩ := hT.ex
  have HV : Hid (∀ W, Kept w W → MapV W c (.agg #[.slice ao (allT c).length acap, .int .i64 (manyI c)])) := fun W k => ⟨_, rfl, hT.kept k⟩
  clear hT
  generalize (allT c).length = ln at *
  have Hg : Hid (Good c) := hg
  have HX : Hid (U x) := hx
  have HN : Hid (newAM c i x = ⟨.own, x, ⟨.pushBottom, 0, 0, x, 0, false⟩, putOne x, false⟩) := by unfold Hid newAM; rw [if_pos hi]
  rw [HN.out]
  clear hg hx
  obtain ⟨hi0, hi1⟩ := hi
  have h0 : ¬ i < 0 := by omega
  have h1 : ¬ i ≥ c.mks := by omega
  clear hi0 hi1
  have hA0 := Blk.new w 35 [.slice ao ln acap, .int .i64 (manyI c)]
  have hk0 : Kept w (w.alloc (.cells ([.slice ao ln acap, .int .i64 (manyI c)] : List Value).toArray 35)) := (Below.refl _ _).alloc (Nat.le_refl _) _
  have z0 : (w.alloc (.cells ([.slice ao ln acap, .int .i64 (manyI c)] : List Value).toArray 35)).heap.size = w.heap.size + 1 := by simp
  go_enter Tryz.func14, Tryz.ntmps14
  go_upto_region 3 with fail
  generalize w.alloc (.cells ([.slice ao ln acap, .int .i64 (manyI c)] : List Value).toArray 35) = w1 at *
  have hC0 := Blk.new w1 37 [.int .i64 (c.c0), .int .i64 (c.c1), .int .i64 (c.c2), .int .i64 (c.c3), .int .i64 (c.c4), .int .i64 (c.mks), .int .i64 (c.mus), .int .i64 (c.dq), .int .i64 (c.ch), .int .i64 (c.bu), .int .i64 (c.ro), .int .i64 (c.sw)]
  rw [z0] at hC0
  have hk1 : Kept w1 (w1.alloc (.cells ([.int .i64 (c.c0), .int .i64 (c.c1), .int .i64 (c.c2), .int .i64 (c.c3), .int .i64 (c.c4), .int .i64 (c.mks), .int .i64 (c.mus), .int .i64 (c.dq), .int .i64 (c.ch), .int .i64 (c.bu), .int .i64 (c.ro), .int .i64 (c.sw)] : List Value).toArray 37)) := (Below.refl _ _).alloc (Nat.le_refl _) _
  have z1 : (w1.alloc (.cells ([.int .i64 (c.c0), .int .i64 (c.c1), .int .i64 (c.c2), .int .i64 (c.c3), .int .i64 (c.c4), .int .i64 (c.mks), .int .i64 (c.mus), .int .i64 (c.dq), .int .i64 (c.ch), .int .i64 (c.bu), .int .i64 (c.ro), .int .i64 (c.sw)] : List Value).toArray 37)).heap.size = w.heap.size + 2 := by simp [z0]
  generalize w1.alloc (.cells ([.int .i64 (c.c0), .int .i64 (c.c1), .int .i64 (c.c2), .int .i64 (c.c3), .int .i64 (c.c4), .int .i64 (c.mks), .int .i64 (c.mus), .int .i64 (c.dq), .int .i64 (c.ch), .int .i64 (c.bu), .int .i64 (c.ro), .int .i64 (c.sw)] : List Value).toArray 37) = w2 at *
  have hr0 := Blk.new w2 59 [.int .i64 0, .int .u64 0, .int .i64 0, .int .i64 0, .int .i64 0, .int .i64 0, .int .i64 0, .int .i64 0, .int .u64 0, .int .u64 0, .int .u64 0, .bool false, .int .i64 0, .int .i64 0, .int .i64 0, .slice none 0 0, .int .i64 0, .int .i64 0, .int .i64 0, .int .i64 0, .int .i64 0, .slice none 0 0, .int .u32 0, .int .u64 0, .int .u32 0, .int .i64 0, .bool false]
  rw [z1] at hr0
  have hk2 : Kept w2 (w2.alloc (.cells ([.int .i64 0, .int .u64 0, .int .i64 0, .int .i64 0, .int .i64 0, .int .i64 0, .int .i64 0, .int .i64 0, .int .u64 0, .int .u64 0, .int .u64 0, .bool false, .int .i64 0, .int .i64 0, .int .i64 0, .slice none 0 0, .int .i64 0, .int .i64 0, .int .i64 0, .int .i64 0, .int .i64 0, .slice none 0 0, .int .u32 0, .int .u64 0, .int .u32 0, .int .i64 0, .bool false] : List Value).toArray 59)) := (Below.refl _ _).alloc (Nat.le_refl _) _
  have z2 : (w2.alloc (.cells ([.int .i64 0, .int .u64 0, .int .i64 0, .int .i64 0, .int .i64 0, .int .i64 0, .int .i64 0, .int .i64 0, .int .u64 0, .int .u64 0, .int .u64 0, .bool false, .int .i64 0, .int .i64 0, .int .i64 0, .slice none 0 0, .int .i64 0, .int .i64 0, .int .i64 0, .int .i64 0, .int .i64 0, .slice none 0 0, .int .u32 0, .int .u64 0, .int .u32 0, .int .i64 0, .bool false] : List Value).toArray 59)).heap.size = w.heap.size + 3 := by simp [z1]
  generalize w2.alloc (.cells ([.int .i64 0, .int .u64 0, .int .i64 0, .int .i64 0, .int .i64 0, .int .i64 0, .int .i64 0, .int .i64 0, .int .u64 0, .int .u64 0, .int .u64 0, .bool false, .int .i64 0, .int .i64 0, .int .i64 0, .slice none 0 0, .int .i64 0, .int .i64 0, .int .i64 0, .int .i64 0, .int .i64 0, .slice none 0 0, .int .u32 0, .int .u64 0, .int .u32 0, .int .i64 0, .bool false] : List Value).toArray 59) = w3 at *
  have hA := (hk2.blk (hk1.blk hA0))
  have hC := (hk2.blk hC0)
  have hr := hr0
  have hk : Kept w w3 := ((hk0.trans' hk1).trans' hk2)
  clear hA0 hC0 hr0 hk0 hk1 hk2 z0 z1
  have zN : w3.heap.size = w.heap.size + 3 := z2
  clear z2
  have a0 := hA.cell 0
  have a1 := hA.cell 1
  simp only [List.getElem?_cons_zero, List.getElem?_cons_succ] at a0 a1
  have c0 := hC.cell 0
  have c1 := hC.cell 1
  have c2 := hC.cell 2
  have c3 := hC.cell 3
  have c4 := hC.cell 4
  have c5 := hC.cell 5
  have c6 := hC.cell 6
  have c7 := hC.cell 7
  have c8 := hC.cell 8
  have c9 := hC.cell 9
  have c10 := hC.cell 10
  have c11 := hC.cell 11
  simp only [List.getElem?_cons_zero, List.getElem?_cons_succ] at c0 c1 c2 c3 c4 c5 c6 c7 c8 c9 c10 c11
  go_wp2_with fail
  refine (ends13_ref i w3 Hg.out (HV.out _ hk)).mono ?_; rintro r w4 ⟨rfl, hkc⟩
  clear a0 a1 c0 c1 c2 c3 c4 c5 c6 c7 c8 c9 c10 c11
  replace hA := hkc.blk hA
  replace hC := hkc.blk hC
  replace hr := hkc.blk hr
  replace hk := Kept.trans' hk hkc
  clear hkc
  go_wp2_with fail
  refine (push8_new (endsOf c i) x w4).mono ?_; rintro r w5 ⟨rfl, hkc⟩
  simp only [r8V]
  replace hA := hkc.blk hA
  replace hC := hkc.blk hC
  replace hr := hkc.blk hr
  replace hk := Kept.trans' hk hkc
  clear hkc
  have HE : Hid (r8L 1 1 (endsOf c i).tp (endsOf c i).bt (endsOf c i).en (endsOf c i).rm 0 0 x false 0 = r8V (endsOf c i) ⟨.pushBottom, 0, 0, x, 0, false⟩) := rfl
  generalize (endsOf c i).tp = en0 at *
  generalize (endsOf c i).bt = en1 at *
  generalize (endsOf c i).en = en2 at *
  generalize (endsOf c i).rm = en3 at *
  go_wp2_with (refine wpList_store_row rfl 59 _ _ rfl hr 0 rfl [.int .i64 (1), .int .u64 (x), .int .i64 (1), .int .i64 (1), .int .i64 (en0), .int .i64 (en1), .int .i64 (en2), .int .i64 (en3), .int .u64 (0), .int .u64 (0), .int .u64 (x), .bool (false), .int .i64 (0), .int .i64 (0), .int .i64 (0), .slice none 0 0, .int .i64 (0), .int .i64 (0), .int .i64 (0), .int .i64 (0), .int .i64 (0), .slice none 0 0, .int .u32 (0), .int .u64 (0), .int .u32 (0), .int .i64 (0), .bool (false)] [.int .i64 (1), .int .u64 (x), .int .i64 (1), .int .i64 (1), .int .i64 (en0), .int .i64 (en1), .int .i64 (en2), .int .i64 (en3), .int .u64 (0), .int .u64 (0), .int .u64 (x), .bool (false), .int .i64 (0), .int .i64 (0), .int .i64 (0), .slice none 0 0, .int .i64 (0), .int .i64 (0), .int .i64 (0), .int .i64 (0), .int .i64 (0), .slice none 0 0, .int .u32 (0), .int .u64 (0), .int .u32 (0), .int .i64 (0), .bool (false)] rfl rfl (by simp) rfl (by kernel_rfl) ?_)
  have hr9 : Blk (w5.setRow (w.heap.size + 2) ([.int .i64 (1), .int .u64 (x), .int .i64 (1), .int .i64 (1), .int .i64 (en0), .int .i64 (en1), .int .i64 (en2), .int .i64 (en3), .int .u64 (0), .int .u64 (0), .int .u64 (x), .bool (false), .int .i64 (0), .int .i64 (0), .int .i64 (0), .slice none 0 0, .int .i64 (0), .int .i64 (0), .int .i64 (0), .int .i64 (0), .int .i64 (0), .slice none 0 0, .int .u32 (0), .int .u64 (0), .int .u32 (0), .int .i64 (0), .bool (false)] : List Value).toArray) (w.heap.size + 2) 59 [.int .i64 (1), .int .u64 (x), .int .i64 (1), .int .i64 (1), .int .i64 (en0), .int .i64 (en1), .int .i64 (en2), .int .i64 (en3), .int .u64 (0), .int .u64 (0), .int .u64 (x), .bool (false), .int .i64 (0), .int .i64 (0), .int .i64 (0), .slice none 0 0, .int .i64 (0), .int .i64 (0), .int .i64 (0), .int .i64 (0), .int .i64 (0), .slice none 0 0, .int .u32 (0), .int .u64 (0), .int .u32 (0), .int .i64 (0), .bool (false)] := Blk.setRow hr _
  have hk9 : Kept w (w5.setRow (w.heap.size + 2) ([.int .i64 (1), .int .u64 (x), .int .i64 (1), .int .i64 (1), .int .i64 (en0), .int .i64 (en1), .int .i64 (en2), .int .i64 (en3), .int .u64 (0), .int .u64 (0), .int .u64 (x), .bool (false), .int .i64 (0), .int .i64 (0), .int .i64 (0), .slice none 0 0, .int .i64 (0), .int .i64 (0), .int .i64 (0), .int .i64 (0), .int .i64 (0), .slice none 0 0, .int .u32 (0), .int .u64 (0), .int .u32 (0), .int .i64 (0), .bool (false)] : List Value).toArray) := Below.setRow hk _ (by omega)
  have hc9 : Chg (fun q => q = w.heap.size + 2) w5 (w5.setRow (w.heap.size + 2) ([.int .i64 (1), .int .u64 (x), .int .i64 (1), .int .i64 (1), .int .i64 (en0), .int .i64 (en1), .int .i64 (en2), .int .i64 (en3), .int .u64 (0), .int .u64 (0), .int .u64 (x), .bool (false), .int .i64 (0), .int .i64 (0), .int .i64 (0), .slice none 0 0, .int .i64 (0), .int .i64 (0), .int .i64 (0), .int .i64 (0), .int .i64 (0), .slice none 0 0, .int .u32 (0), .int .u64 (0), .int .u32 (0), .int .i64 (0), .bool (false)] : List Value).toArray) := Chg.setRow (Chg.refl _ _) _ _ (fun _ => rfl)
  have u0 : U 0 := by unfold U; omega
  exact bodyPost_ret (v := .agg ([.int .i64 (1), .int .u64 (x), .int .i64 (1), .int .i64 (1), .int .i64 (en0), .int .i64 (en1), .int .i64 (en2), .int .i64 (en3), .int .u64 (0), .int .u64 (0), .int .u64 (x), .bool (false), .int .i64 (0), .int .i64 (0), .int .i64 (0), .slice none 0 0, .int .i64 (0), .int .i64 (0), .int .i64 (0), .int .i64 (0), .int .i64 (0), .slice none 0 0, .int .u32 (0), .int .u64 (0), .int .u32 (0), .int .i64 (0), .bool (false)] : List Value).toArray) (results_c (l := [.int .i64 (1), .int .u64 (x), .int .i64 (1), .int .i64 (1), .int .i64 (en0), .int .i64 (en1), .int .i64 (en2), .int .i64 (en3), .int .u64 (0), .int .u64 (0), .int .u64 (x), .bool (false), .int .i64 (0), .int .i64 (0), .int .i64 (0), .slice none 0 0, .int .i64 (0), .int .i64 (0), .int .i64 (0), .int .i64 (0), .int .i64 (0), .slice none 0 0, .int .u32 (0), .int .u64 (0), .int .u32 (0), .int .i64 (0), .bool (false)]) Tryz.results14 rfl hr9 _ Tryz.underlying59 rfl (by kernel_rfl)) rfl ⟨_, rfl, ⟨⟨_, _, _, _, _, _, _, _, _, _, _, _, _, _, _, _, _, _, _, _, _, _, _, rfl, fun _ => ⟨rfl, HE.out⟩, fun e => (by cases e)⟩, ⟨_, _, _, rfl⟩, ⟨_, _, _, rfl⟩, fun _ => ⟨.inr (.inl rfl), fun e => (by cases e), u0, u0, HX.out⟩⟩, hk9⟩

theorem new13_ref {c : Cfg} {a : Value} (i x : Int) (w : World) (hg : Good c) (ha : MapV w c a) (hx : U x) :
    Calls Tryz.prog 14 #[a, .agg #[.int .i64 c.c0, .int .i64 c.c1, .int .i64 c.c2, .int .i64 c.c3, .int .i64 c.c4, .int .i64 c.mks, .int .i64 c.mus, .int .i64 c.dq, .int .i64 c.ch, .int .i64 c.bu, .int .i64 c.ro, .int .i64 c.sw], .int .i64 i, .int .u64 x] w fun e w' => ∃ v, e = .returned v ∧ R13 w' v c i (.slice none 0 0) (.slice none 0 0) (newAM c i x) ∧ Kept w w' := by
  by_cases hi : 0 ≤ i ∧ i < c.mks
  · exact new13_some i x w hg ha hx hi
  · exact new13_none i x w hg ha hx hi

end Go.Proofs.YtfbcadknimfhjaaGreat
