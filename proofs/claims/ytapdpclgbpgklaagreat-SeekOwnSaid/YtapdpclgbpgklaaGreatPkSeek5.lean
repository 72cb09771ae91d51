/- A marker that looks for a task: any step of its machine; it is made; what it found: walked. -/
import Derived.Test.YtapdpclgbpgklaaGreatPkSeek4
namespace Go.Proofs.YtapdpclgbpgklaaGreat
open Go.RowKit

theorem kval_func {q : KPc} (b : Nat) (h : q.fin = false) : ∃ f : FuncId, q.val b = .func (.func f) #[.pointer (some ⟨b, 0, none⟩)] #[] := by
  cases q
  · cases h
  all_goals exact ⟨_, rfl⟩

theorem kval_done {q : KPc} (b : Nat) (h : q.fin = true) : q.val b = .nilFunc := by
  cases q
  · rfl
  all_goals cases h

theorem kfin_iff {q : KPc} : q.fin = true ↔ q = .done := by cases q <;> simp [KPc.fin]

theorem skStep_done {c : Cfg} {mem : List Int} {s : KS} (h : s.pc = .done) : skStep c mem s = (mem, s) := by
  unfold skStep; rw [h]

set_option maxRecDepth 8000 in
/-- Any step of a seek's machine. -/
theorem skstep_any {x bm bs bl B : Nat} {c : Cfg} {s : KS} {O : Nat → Prop} {mem : List Int} {n : Int} (w : World) (hg : Good c) (h : SkAt w x bm bs bl c s O) (hs : StoreAt w bs bl mem n) (hm : MapAt w B bm c) (hB : B ≤ w.heap.size) (hO : ∀ k, O k → B ≤ k) (hBs : B ≤ bs) (hBl : B ≤ bl) :
    Calls Tryz.prog 52 #[.pointer (some ⟨x, 0, none⟩), .pointer (some ⟨bs, 0, none⟩)] w fun r w' => r = .returned (.bool (skStep c mem s).2.pc.fin) ∧ SkAt w' x bm bs bl c (skStep c mem s).2 (Grow O w w') ∧ StoreAt w' bs bl (skStep c mem s).1 (cntIf s.pc.fin n) ∧ Chg (OwnB O bs bl) w w' := by
  obtain ⟨ev, pv, hx, _⟩ := h.ex
  have g10 := hx.cell 10
  simp only [List.getElem?_cons_zero, List.getElem?_cons_succ] at g10
  have hn0 := func_eql0
  have hn1 := func_eql
  cases hq : s.pc
  case done =>
    rw [skStep_done hq]
    rw [hq] at g10
    simp only [KPc.val] at g10
    have hfin : s.pc.fin = true := by rw [hq]; rfl
    have H : Hid (SkAt w x bm bs bl c s O) := h
    clear h
    go_enter Tryz.func52, Tryz.ntmps52
    go_wp2_with fail
    go_ret
    exact ⟨ret_bool hfin.symm, by rw [Grow.self]; exact H.out, hs, Chg.refl _ _⟩
  case own =>
    have D := skOwn_does w hg h hs hm hB hO hBs hBl hq
    rw [hq] at g10
    simp only [KPc.val] at g10
    generalize skStep c mem s = rr at *
    clear h
    go_enter Tryz.func52, Tryz.ntmps52
    go_wp2_with fail
    refine D.mono ?_; rintro r w2 ⟨rfl, hd2, hs2, hc2⟩
    obtain ⟨_, _, hA2, _⟩ := hd2.ex
    have k10 := hA2.cell 10
    simp only [List.getElem?_cons_zero, List.getElem?_cons_succ] at k10
    have H : Hid (SkAt w2 x bm bs bl c rr.2 (Grow O w w2)) := hd2
    clear hd2
    cases hf : rr.2.pc.fin
    · obtain ⟨f, hv⟩ := kval_func x hf
      rw [hv] at k10
      go_wp2_with fail
      go_ret
      exact ⟨ret_bool hf.symm, H.out, hs2, hc2⟩
    · rw [kval_done x hf] at k10
      go_wp2_with fail
      go_ret
      exact ⟨ret_bool hf.symm, H.out, hs2, hc2⟩
  case first =>
    have D := skFirst_does w hg h hs hm hq
    rw [hq] at g10
    simp only [KPc.val] at g10
    generalize skStep c mem s = rr at *
    clear h
    go_enter Tryz.func52, Tryz.ntmps52
    go_wp2_with fail
    refine D.mono ?_; rintro r w2 ⟨rfl, hd2, hs2, hc2⟩
    obtain ⟨_, _, hA2, _⟩ := hd2.ex
    have k10 := hA2.cell 10
    simp only [List.getElem?_cons_zero, List.getElem?_cons_succ] at k10
    have H : Hid (SkAt w2 x bm bs bl c rr.2 (Grow O w w2)) := hd2
    clear hd2
    cases hf : rr.2.pc.fin
    · obtain ⟨f, hv⟩ := kval_func x hf
      rw [hv] at k10
      go_wp2_with fail
      go_ret
      exact ⟨ret_bool hf.symm, H.out, hs2, hc2⟩
    · rw [kval_done x hf] at k10
      go_wp2_with fail
      go_ret
      exact ⟨ret_bool hf.symm, H.out, hs2, hc2⟩
  case back =>
    have D := skBack_does w hg h hs hm hB hO hBs hBl hq
    rw [hq] at g10
    simp only [KPc.val] at g10
    generalize skStep c mem s = rr at *
    clear h
    go_enter Tryz.func52, Tryz.ntmps52
    go_wp2_with fail
    refine D.mono ?_; rintro r w2 ⟨rfl, hd2, hs2, hc2⟩
    obtain ⟨_, _, hA2, _⟩ := hd2.ex
    have k10 := hA2.cell 10
    simp only [List.getElem?_cons_zero, List.getElem?_cons_succ] at k10
    have H : Hid (SkAt w2 x bm bs bl c rr.2 (Grow O w w2)) := hd2
    clear hd2
    cases hf : rr.2.pc.fin
    · obtain ⟨f, hv⟩ := kval_func x hf
      rw [hv] at k10
      go_wp2_with fail
      go_ret
      exact ⟨ret_bool hf.symm, H.out, hs2, hc2⟩
    · rw [kval_done x hf] at k10
      go_wp2_with fail
      go_ret
      exact ⟨ret_bool hf.symm, H.out, hs2, hc2⟩
  case take =>
    have D := skTake_does w hg h hs hm hB hO hBs hBl hq
    rw [hq] at g10
    simp only [KPc.val] at g10
    generalize skStep c mem s = rr at *
    clear h
    go_enter Tryz.func52, Tryz.ntmps52
    go_wp2_with fail
    refine D.mono ?_; rintro r w2 ⟨rfl, hd2, hs2, hc2⟩
    obtain ⟨_, _, hA2, _⟩ := hd2.ex
    have k10 := hA2.cell 10
    simp only [List.getElem?_cons_zero, List.getElem?_cons_succ] at k10
    have H : Hid (SkAt w2 x bm bs bl c rr.2 (Grow O w w2)) := hd2
    clear hd2
    cases hf : rr.2.pc.fin
    · obtain ⟨f, hv⟩ := kval_func x hf
      rw [hv] at k10
      go_wp2_with fail
      go_ret
      exact ⟨ret_bool hf.symm, H.out, hs2, hc2⟩
    · rw [kval_done x hf] at k10
      go_wp2_with fail
      go_ret
      exact ⟨ret_bool hf.symm, H.out, hs2, hc2⟩
  case many =>
    have D := skMany_does w hg h hs hm hB hO hBs hBl hq
    rw [hq] at g10
    simp only [KPc.val] at g10
    generalize skStep c mem s = rr at *
    clear h
    go_enter Tryz.func52, Tryz.ntmps52
    go_wp2_with fail
    refine D.mono ?_; rintro r w2 ⟨rfl, hd2, hs2, hc2⟩
    obtain ⟨_, _, hA2, _⟩ := hd2.ex
    have k10 := hA2.cell 10
    simp only [List.getElem?_cons_zero, List.getElem?_cons_succ] at k10
    have H : Hid (SkAt w2 x bm bs bl c rr.2 (Grow O w w2)) := hd2
    clear hd2
    cases hf : rr.2.pc.fin
    · obtain ⟨f, hv⟩ := kval_func x hf
      rw [hv] at k10
      go_wp2_with fail
      go_ret
      exact ⟨ret_bool hf.symm, H.out, hs2, hc2⟩
    · rw [kval_done x hf] at k10
      go_wp2_with fail
      go_ret
      exact ⟨ret_bool hf.symm, H.out, hs2, hc2⟩
  case steal =>
    have D := skSteal_does w h hs hq
    rw [hq] at g10
    simp only [KPc.val] at g10
    generalize skStep c mem s = rr at *
    clear h
    go_enter Tryz.func52, Tryz.ntmps52
    go_wp2_with fail
    refine D.mono ?_; rintro r w2 ⟨rfl, hd2, hs2, hc2⟩
    obtain ⟨_, _, hA2, _⟩ := hd2.ex
    have k10 := hA2.cell 10
    simp only [List.getElem?_cons_zero, List.getElem?_cons_succ] at k10
    have H : Hid (SkAt w2 x bm bs bl c rr.2 (Grow O w w2)) := hd2
    clear hd2
    cases hf : rr.2.pc.fin
    · obtain ⟨f, hv⟩ := kval_func x hf
      rw [hv] at k10
      go_wp2_with fail
      go_ret
      exact ⟨ret_bool hf.symm, H.out, hs2, hc2⟩
    · rw [kval_done x hf] at k10
      go_wp2_with fail
      go_ret
      exact ⟨ret_bool hf.symm, H.out, hs2, hc2⟩

def four (a : Int) : Int := min (max a 0) 4

theorem four_ok (a : Int) : 0 ≤ four a ∧ four a ≤ 4 := by unfold four; omega

/-- A marker begins to look for a task. -/
def newKS (c : Cfg) (i bp ba bn draw : Int) : KS :=
  if 0 ≤ i ∧ i < c.mks then ⟨.own, i, bp, four ba, four bn, draw, 0, false, ⟨.popBottom, 0, 0, 0, 0, false⟩, takePM, 0, ⟨.stealTop, 0, 0, 0, 0⟩⟩
  else ⟨.done, i, bp, ba, bn, draw, 0, false, ⟨.popBottom, 0, 0, 0, 0, false⟩, takePM, 0, ⟨.stealTop, 0, 0, 0, 0⟩⟩

set_option maxRecDepth 8000 in
set_option maxHeartbeats 1600000 in
theorem seekNew_any {bm bs bl B : Nat} {c : Cfg} (i bp ba bn draw : Int) (w : World) (hg : Good c) (hm : MapAt w B bm c) (hB : B ≤ w.heap.size) (hbs : bs < w.heap.size) (hbl : bl < w.heap.size) :
    Calls Tryz.prog 51 #[.pointer (some ⟨bm, 0, none⟩), .int .i64 i, .agg #[.int .i64 bp, .int .i64 ba, .int .i64 bn], .int .i64 draw] w fun r w' => ∃ x, r = .returned (.pointer (some ⟨x, 0, none⟩)) ∧ SkAt w' x bm bs bl c (newKS c i bp ba bn draw) (NewB w w') ∧ w.heap.size ≤ x ∧ Kept w w' := by
  have hb := Blk.new w 105 [.int .i64 bp, .int .i64 ba, .int .i64 bn]
  have hk0 : Kept w (w.alloc (.cells ([.int .i64 bp, .int .i64 ba, .int .i64 bn] : List Value).toArray 105)) := (Below.refl _ _).alloc (Nat.le_refl _) _
  have hx0 := Blk.new (w.alloc (.cells ([.int .i64 bp, .int .i64 ba, .int .i64 bn] : List Value).toArray 105)) 166 (skL bm ⟨i, bp, ba, bn, draw, 0, false⟩ (.pointer none) (.pointer none) .nilFunc)
  have hk1 : Kept w ((w.alloc (.cells ([.int .i64 bp, .int .i64 ba, .int .i64 bn] : List Value).toArray 105)).alloc (.cells (skL bm ⟨i, bp, ba, bn, draw, 0, false⟩ (.pointer none) (.pointer none) .nilFunc).toArray 166)) := hk0.alloc (by simp) _
  have hb1 := hb.alloc (.cells (skL bm ⟨i, bp, ba, bn, draw, 0, false⟩ (.pointer none) (.pointer none) .nilFunc).toArray 166)
  have gb0 := hb.cell 0
  have gb1 := hb.cell 1
  have gb2 := hb.cell 2
  simp only [List.getElem?_cons_zero, List.getElem?_cons_succ] at gb0 gb1 gb2
  have hsz : (w.alloc (.cells ([.int .i64 bp, .int .i64 ba, .int .i64 bn] : List Value).toArray 105)).heap.size = w.heap.size + 1 := by simp
  rw [hsz] at hx0
  by_cases hi : 0 ≤ i ∧ i < c.mks
  · have HN : Hid (newKS c i bp ba bn draw = ⟨.own, i, bp, four ba, four bn, draw, 0, false, ⟨.popBottom, 0, 0, 0, 0, false⟩, takePM, 0, ⟨.stealTop, 0, 0, 0, 0⟩⟩) := by unfold Hid newKS; rw [if_pos hi]
    obtain ⟨tp, htp⟩ : ∃ tp : Int, pEnd c i 0 = tp := ⟨_, rfl⟩
    have htp0 : ¬ tp < 0 := by have := pEnd_pos hg hi (j := 0) (by omega); omega
    have HP : Hid (pEnd c i 0 = tp) := htp
    have EO := ends_ok hg i
    obtain ⟨a4, ha4⟩ : ∃ a4 : Int, min (max ba 0) 4 = a4 := ⟨_, rfl⟩
    obtain ⟨b4, hb4⟩ : ∃ b4 : Int, min (max bn 0) 4 = b4 := ⟨_, rfl⟩
    have HA4 : Hid (four ba = a4) := ha4
    have HB4 : Hid (four bn = b4) := hb4
    have hao := four_ok ba
    have hbo := four_ok bn
    rw [HA4.out] at hao
    rw [HB4.out] at hbo
    clear htp
    go_enter Tryz.func51, Tryz.ntmps51
    go_wp2_with fail
    generalize hw1 : (w.alloc (.cells ([.int .i64 bp, .int .i64 ba, .int .i64 bn] : List Value).toArray 105)).alloc (.cells (skL bm ⟨i, bp, ba, bn, draw, 0, false⟩ (.pointer none) (.pointer none) .nilFunc).toArray 166) = w1 at *
    have z1 : w1.heap.size = w.heap.size + 1 + 1 := by rw [← hw1]; simp
    have hm1 := hm.kept hk1 hB
    clear hw1 hb hk0 gb0 gb1 gb2 hsz
    refine (mTop_k i w1 hm1 hg).mono ?_; rintro r w2 ⟨rfl, hk2⟩
    rw [HP.out]
    have hx2 := hk2.blk hx0
    have hb2 := hk2.blk hb1
    have hm2 := hm1.kept hk2 (by omega)
    have z2 := hk2.size
    clear hx0 hb1 hm1
    have k3 := hx2.cell 3
    have f3 := hx2.free 3
    have k4 := hx2.cell 4
    have f4 := hx2.free 4
    have j1 := hb2.cell 1
    have j2 := hb2.cell 2
    simp only [List.getElem?_cons_zero, List.getElem?_cons_succ] at k3 k4 j1 j2
    go_wp2_with fail
    have hx3 : Blk ((w2.setCell ⟨w.heap.size + 1, 3, none⟩ (.int .i64 a4)).setCell ⟨w.heap.size + 1, 4, none⟩ (.int .i64 b4)) (w.heap.size + 1) 166 (skL bm ⟨i, bp, a4, b4, draw, 0, false⟩ (.pointer none) (.pointer none) .nilFunc) := (hx2.set' 3 _ rfl).set' 4 _ rfl
    have hc3 : Chg (fun k => k = w.heap.size + 1) w2 ((w2.setCell ⟨w.heap.size + 1, 3, none⟩ (.int .i64 a4)).setCell ⟨w.heap.size + 1, 4, none⟩ (.int .i64 b4)) := ((Chg.refl (fun k => k = w.heap.size + 1) w2).setCell ⟨w.heap.size + 1, 3, none⟩ _ (fun _ => rfl)).setCell ⟨w.heap.size + 1, 4, none⟩ _ (fun _ => rfl)
    generalize (w2.setCell ⟨w.heap.size + 1, 3, none⟩ (.int .i64 a4)).setCell ⟨w.heap.size + 1, 4, none⟩ (.int .i64 b4) = w3 at *
    have hm3 := hm2.below (hc3.toBelow (B := B) (by omega) (fun q hq e => by omega)) (Nat.le_refl _)
    have z3 := hc3.size
    have hK3 : Kept w w3 := (hk1.trans' hk2).trans (hc3.toBelow (by omega) (fun q hq e => by omega))
    clear k3 f3 k4 f4 j1 j2 hx2 hb2 hm2
    refine (ends_any i w3 hm3 (by omega) hg).mono ?_; rintro r w4 ⟨rfl, hk4⟩
    have hx4 := hk4.blk hx3
    have z4 := hk4.size
    go_wp2_with fail
    refine (pop_deq (endsOf c i) w4 EO).mono ?_; rintro r w5 ⟨sb, s1, s2, rfl, hd5, y1, y2, y3, hk5⟩
    have hx5 := hk5.blk hx4
    have z5 := hk5.size
    have hK5 : Kept w w5 := (hK3.trans' hk4).trans' hk5
    have lb1 := hd5.blk.lt
    have lq1 := (hd5.box _ rfl).1.lt
    have lq2 := (hd5.box _ rfl).2.lt
    have k6 := hx5.cell 6
    have f6 := hx5.free 6
    have k10 := hx5.cell 10
    have f10 := hx5.free 10
    simp only [List.getElem?_cons_zero, List.getElem?_cons_succ] at k6 k10
    clear hx3 hx4 hm3 hk4 hk5 hK3
    go_wp2_with fail
    go_ret
    have hc7 : Chg (fun k => k = w.heap.size + 1) w5 ((w5.setCell ⟨w.heap.size + 1, 6, none⟩ (.pointer (some ⟨sb, 0, none⟩))).setCell ⟨w.heap.size + 1, 10, none⟩ ((KPc.own).val (w.heap.size + 1))) := ((Chg.refl (fun k => k = w.heap.size + 1) w5).setCell ⟨w.heap.size + 1, 6, none⟩ _ (fun _ => rfl)).setCell ⟨w.heap.size + 1, 10, none⟩ _ (fun _ => rfl)
    have z7 := hc7.size
    have hK7 := hK5.trans (hc7.toBelow (B := w.heap.size) (by omega) (fun q hq e => by omega))
    refine ⟨w.heap.size + 1, rfl, ?_, by omega, hK7⟩
    rw [HN.out, HA4.out, HB4.out]
    exact ⟨by show U 0; unfold U; omega, fun _ => ⟨hi, hao, hbo⟩, fun k hk => ⟨hk.2, by have := hk.1; omega, by have := hk.1; omega⟩, ⟨by omega, Nat.lt_of_lt_of_le hx5.lt z7⟩, fun e => (by cases e), _, _, (hx5.set' 6 _ rfl).set' 10 _ rfl, fun _ => ⟨rfl, sb, s1, s2, rfl, hd5.chg hc7 (show ¬ sb = w.heap.size + 1 by omega) (show ¬ s1 = w.heap.size + 1 by omega) (show ¬ s2 = w.heap.size + 1 by omega), ⟨by omega, Nat.lt_of_lt_of_le lb1 z7⟩, ⟨by omega, Nat.lt_of_lt_of_le lq1 z7⟩, ⟨by omega, Nat.lt_of_lt_of_le lq2 z7⟩, by omega, by omega, by omega⟩, fun e => (by rcases e with e | e <;> cases e), fun e => (by cases e), fun e => by cases e⟩
  · have HN : Hid (newKS c i bp ba bn draw = ⟨.done, i, bp, ba, bn, draw, 0, false, ⟨.popBottom, 0, 0, 0, 0, false⟩, takePM, 0, ⟨.stealTop, 0, 0, 0, 0⟩⟩) := by unfold Hid newKS; rw [if_neg hi]
    have HP : Hid (pEnd c i 0 = -1) := if_neg hi
    clear hi
    go_enter Tryz.func51, Tryz.ntmps51
    go_wp2_with fail
    generalize hw1 : (w.alloc (.cells ([.int .i64 bp, .int .i64 ba, .int .i64 bn] : List Value).toArray 105)).alloc (.cells (skL bm ⟨i, bp, ba, bn, draw, 0, false⟩ (.pointer none) (.pointer none) .nilFunc).toArray 166) = w1 at *
    have z1 : w1.heap.size = w.heap.size + 1 + 1 := by rw [← hw1]; simp
    have hm1 := hm.kept hk1 hB
    clear hw1 hb hk0 gb0 gb1 gb2 hsz
    refine (mTop_k i w1 hm1 hg).mono ?_; rintro r w2 ⟨rfl, hk2⟩
    rw [HP.out]
    have hx2 := hk2.blk hx0
    have hb2 := hk2.blk hb1
    have hm2 := hm1.kept hk2 (by omega)
    have z2 := hk2.size
    clear hx0 hb1 hm1
    go_wp2_with fail
    go_ret
    refine ⟨w.heap.size + 1, rfl, ?_, by omega, hk1.trans' hk2⟩
    rw [HN.out]
    exact SkAt.plain (by show U 0; unfold U; omega) (fun e => absurd rfl e) (fun k hk => ⟨hk.2, by have := hk.1; omega, by have := hk.1; omega⟩) ⟨by omega, hx2.lt⟩ (fun e => by cases e) hx2 (.inl rfl)

/-- What was found. -/
theorem skTask_any {x bm bs bl : Nat} {c : Cfg} {s : KS} {O : Nat → Prop} (w : World) (h : SkAt w x bm bs bl c s O) :
    Calls Tryz.prog 53 #[.pointer (some ⟨x, 0, none⟩)] w fun r w' => r = .returned (if s.found then .tuple #[.int .u64 s.task, .bool true] else .tuple #[.int .u64 0, .bool false]) ∧ w = w' := by
  obtain ⟨ev, pv, hx, _⟩ := h.ex
  simp only [KS.kv] at hx
  have g8 := hx.cell 8
  have g9 := hx.cell 9
  simp only [List.getElem?_cons_zero, List.getElem?_cons_succ] at g8 g9
  clear h
  cases hf : s.found <;> rw [hf] at g9
  · go_enter Tryz.func53, Tryz.ntmps53
    go_wp2_with fail
    go_ret2
    exact ⟨rfl, rfl⟩
  · go_enter Tryz.func53, Tryz.ntmps53
    go_wp2_with fail
    go_ret2
    exact ⟨rfl, rfl⟩

end Go.Proofs.YtapdpclgbpgklaaGreat
