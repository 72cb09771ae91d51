/- A task that is done: any step of its machine; a machine is made; what a step did: walked. -/
import Derived.Test.YtapdpclgbpgklaaGreatPkScan4
import Derived.Test.YtapdpclgbpgklaaGreatPkScan5
namespace Go.Proofs.YtapdpclgbpgklaaGreat
open Go.RowKit

theorem yval_func {q : YPc} (b : Nat) (h : q.fin = false) : ∃ f : FuncId, q.val b = .func (.func f) #[.pointer (some ⟨b, 0, none⟩)] #[] := by
  cases q
  · cases h
  all_goals exact ⟨_, rfl⟩

theorem yval_done {q : YPc} (b : Nat) (h : q.fin = true) : q.val b = .nilFunc := by
  cases q
  · rfl
  all_goals cases h

/-- Of what kind an event is. -/
def EvOk (e : Ev) : Prop := e = Ev.zero ∨ e.k = 1 ∨ e.k = 2 ∨ e.k = 3 ∨ e.k = 4

theorem scStep_ev (c : Cfg) (mem : List Int) (s : YS) : EvOk (scStep c mem s).2.ev := by
  unfold scStep EvOk
  split
  · exact .inl rfl
  · exact .inl rfl
  · exact .inr (.inr (.inl rfl))
  · exact .inl rfl
  · simp only []; split <;> exact .inr (.inr (.inr (.inl rfl)))
  · simp only []
    split
    · split
      · exact .inr (.inl rfl)
      · exact .inl rfl
    · exact .inl rfl
  · exact .inr (.inr (.inr (.inr rfl)))

theorem ev_neq0 (W : World) : (binOp .neq 61 (.agg #[.int .i64 0, .int .i64 0, .int .i64 0, .int .i64 0, .int .i64 0]) (.agg #[.int .i64 0, .int .i64 0, .int .i64 0, .int .i64 0, .int .i64 0])).run Tryz.prog W = .ok (.bool false) W := by kernel_rfl

theorem ev_neq1 (b c d e : Int) (W : World) : (binOp .neq 61 (.agg #[.int .i64 1, .int .i64 b, .int .i64 c, .int .i64 d, .int .i64 e]) (.agg #[.int .i64 0, .int .i64 0, .int .i64 0, .int .i64 0, .int .i64 0])).run Tryz.prog W = .ok (.bool true) W := by kernel_rfl

theorem ev_neq2 (b c d e : Int) (W : World) : (binOp .neq 61 (.agg #[.int .i64 2, .int .i64 b, .int .i64 c, .int .i64 d, .int .i64 e]) (.agg #[.int .i64 0, .int .i64 0, .int .i64 0, .int .i64 0, .int .i64 0])).run Tryz.prog W = .ok (.bool true) W := by kernel_rfl

theorem ev_neq3 (b c d e : Int) (W : World) : (binOp .neq 61 (.agg #[.int .i64 3, .int .i64 b, .int .i64 c, .int .i64 d, .int .i64 e]) (.agg #[.int .i64 0, .int .i64 0, .int .i64 0, .int .i64 0, .int .i64 0])).run Tryz.prog W = .ok (.bool true) W := by kernel_rfl

theorem ev_neq4 (b c d e : Int) (W : World) : (binOp .neq 61 (.agg #[.int .i64 4, .int .i64 b, .int .i64 c, .int .i64 d, .int .i64 e]) (.agg #[.int .i64 0, .int .i64 0, .int .i64 0, .int .i64 0, .int .i64 0])).run Tryz.prog W = .ok (.bool true) W := by kernel_rfl

theorem ev_neq (e : Ev) (h : e.k = 1 ∨ e.k = 2 ∨ e.k = 3 ∨ e.k = 4) (W : World) : (binOp .neq 61 (.agg #[.int .i64 e.k, .int .i64 e.who, .int .i64 e.a, .int .i64 e.b, .int .i64 e.c]) (.agg #[.int .i64 0, .int .i64 0, .int .i64 0, .int .i64 0, .int .i64 0])).run Tryz.prog W = .ok (.bool true) W := by
  rcases h with h | h | h | h <;> rw [h]
  · exact ev_neq1 _ _ _ _ W
  · exact ev_neq2 _ _ _ _ W
  · exact ev_neq3 _ _ _ _ W
  · exact ev_neq4 _ _ _ _ W

/-- The event is cleared ahead of a step. -/
def YS.clear (s : YS) : YS := { s with ev := Ev.zero }

theorem scStep_clear (c : Cfg) (mem : List Int) (s : YS) : scStep c mem s.clear = scStep c mem s := by
  obtain ⟨pc, i, v, fr, cy, p0, p1, at_, w0, cm, am, ev⟩ := s
  cases pc <;> rfl

theorem scStep_done {c : Cfg} {mem : List Int} {s : YS} (h : s.pc = .done) : scStep c mem s = (mem, s.clear) := by
  obtain ⟨pc, i, v, fr, cy, p0, p1, at_, w0, cm, am, ev⟩ := s
  simp only at h
  subst h
  rfl

theorem clear_self {s : YS} (h : s.ev = Ev.zero) : s.clear = s := by
  obtain ⟨pc, i, v, fr, cy, p0, p1, at_, w0, cm, am, ev⟩ := s
  simp only at h
  subst h
  rfl

set_option maxRecDepth 8000 in
set_option maxHeartbeats 6400000 in
theorem scStep_zero {x bm bs bl B : Nat} {c : Cfg} {s : YS} {O : Nat → Prop} {mem : List Int} {n : Int} (w : World) (hg : Good c) (h : ScAt w x bm bs bl c s O) (hs : StoreAt w bs bl mem n) (hm : MapAt w B bm c) (hB : B ≤ w.heap.size) (hO : ∀ k, O k → B ≤ k) (hBs : B ≤ bs) (hBl : B ≤ bl) (hev : s.ev = Ev.zero) :
    Calls Tryz.prog 39 #[.pointer (some ⟨x, 0, none⟩), .pointer (some ⟨bs, 0, none⟩)] w fun r w' => r = .returned (.bool (scStep c mem s).2.pc.fin) ∧ ScAt w' x bm bs bl c (scStep c mem s).2 (Grow O w w') ∧ StoreAt w' bs bl (scStep c mem s).1 (cntIf s.pc.fin n) ∧ Chg (OwnB O bs bl) w w' := by
  obtain ⟨cp, ap, hx, _, _⟩ := id h.ex
  have hn0 := func_eql0
  have hn1 := func_eql
  have he := ev_neq0
  have g16 := hx.cell 16
  have g11 := hx.cell 11
  have g12 := hx.cell 12
  have g13 := hx.cell 13
  have g14 := hx.cell 14
  have g15 := hx.cell 15
  simp only [YS.sv, hev, List.getElem?_cons_zero, List.getElem?_cons_succ] at g11 g12 g13 g14 g15 g16
  clear hx
  cases hq : s.pc
  case done =>
    have hst : scStep c mem s = (mem, s) := by rw [scStep_done hq, clear_self hev]
    rw [hst]
    rw [hq] at g16
    simp only [YPc.val] at g16
    have hfin : s.pc.fin = true := by rw [hq]; rfl
    have H : Hid (ScAt w x bm bs bl c s O) := h
    clear h hst hev
    go_enter Tryz.func39, Tryz.ntmps39
    go_wp2_with fail
    go_ret
    exact ⟨ret_bool hfin.symm, by rw [Grow.self]; exact H.out, hs, Chg.refl _ _⟩
  case head =>
    have D := scHead_does w hg h hs hm hB hO hBs hBl hq hev
    rw [hq] at g16
    simp only [YPc.val] at g16
    clear h hev
    go_enter Tryz.func39, Tryz.ntmps39
    go_wp2_with fail
    refine D.mono ?_; rintro r w2 ⟨rfl, hd2, hs2, hc2⟩
    obtain ⟨_, _, hx2, _⟩ := id hd2.ex
    have k16 := hx2.cell 16
    simp only [List.getElem?_cons_zero, List.getElem?_cons_succ] at k16
    have HD : Hid (ScAt w2 x bm bs bl c (scStep c mem s).2 (Grow O w w2) ∧ StoreAt w2 bs bl (scStep c mem s).1 (cnt n) ∧ Chg (OwnB O bs bl) w w2) := ⟨hd2, hs2, hc2⟩
    clear hd2 hs2 hc2 hx2
    cases hf : (scStep c mem s).2.pc.fin
    · obtain ⟨f, hv⟩ := yval_func x hf
      rw [hv] at k16
      go_wp2_with fail
      go_ret
      exact ⟨ret_bool hf.symm, HD.out⟩
    · rw [yval_done x hf] at k16
      go_wp2_with fail
      go_ret
      exact ⟨ret_bool hf.symm, HD.out⟩
  case count =>
    have D := scCount_does w hg h hs hm hB hO hBs hBl hq hev
    rw [hq] at g16
    simp only [YPc.val] at g16
    clear h hev
    go_enter Tryz.func39, Tryz.ntmps39
    go_wp2_with fail
    refine D.mono ?_; rintro r w2 ⟨rfl, hd2, hs2, hc2⟩
    obtain ⟨_, _, hx2, _⟩ := id hd2.ex
    have k16 := hx2.cell 16
    simp only [List.getElem?_cons_zero, List.getElem?_cons_succ] at k16
    have HD : Hid (ScAt w2 x bm bs bl c (scStep c mem s).2 (Grow O w w2) ∧ StoreAt w2 bs bl (scStep c mem s).1 (cnt n) ∧ Chg (OwnB O bs bl) w w2) := ⟨hd2, hs2, hc2⟩
    clear hd2 hs2 hc2 hx2
    cases hf : (scStep c mem s).2.pc.fin
    · obtain ⟨f, hv⟩ := yval_func x hf
      rw [hv] at k16
      go_wp2_with fail
      go_ret
      exact ⟨ret_bool hf.symm, HD.out⟩
    · rw [yval_done x hf] at k16
      go_wp2_with fail
      go_ret
      exact ⟨ret_bool hf.symm, HD.out⟩
  case adds =>
    have D := scAdds_does w hg h hs hm hB hO hBs hBl hq hev
    rw [hq] at g16
    simp only [YPc.val] at g16
    clear h hev
    go_enter Tryz.func39, Tryz.ntmps39
    go_wp2_with fail
    refine D.mono ?_; rintro r w2 ⟨rfl, hd2, hs2, hc2⟩
    obtain ⟨_, _, hx2, _⟩ := id hd2.ex
    have k16 := hx2.cell 16
    simp only [List.getElem?_cons_zero, List.getElem?_cons_succ] at k16
    have HD : Hid (ScAt w2 x bm bs bl c (scStep c mem s).2 (Grow O w w2) ∧ StoreAt w2 bs bl (scStep c mem s).1 (cnt n) ∧ Chg (OwnB O bs bl) w w2) := ⟨hd2, hs2, hc2⟩
    clear hd2 hs2 hc2 hx2
    cases hf : (scStep c mem s).2.pc.fin
    · obtain ⟨f, hv⟩ := yval_func x hf
      rw [hv] at k16
      go_wp2_with fail
      go_ret
      exact ⟨ret_bool hf.symm, HD.out⟩
    · rw [yval_done x hf] at k16
      go_wp2_with fail
      go_ret
      exact ⟨ret_bool hf.symm, HD.out⟩
  case slot =>
    have D := scSlot_does w hg h hs hm hB hO hBs hBl hq hev
    rw [hq] at g16
    simp only [YPc.val] at g16
    clear h hev
    go_enter Tryz.func39, Tryz.ntmps39
    go_wp2_with fail
    refine D.mono ?_; rintro r w2 ⟨rfl, hd2, hs2, hc2⟩
    obtain ⟨_, _, hx2, _⟩ := id hd2.ex
    have k16 := hx2.cell 16
    simp only [List.getElem?_cons_zero, List.getElem?_cons_succ] at k16
    have HD : Hid (ScAt w2 x bm bs bl c (scStep c mem s).2 (Grow O w w2) ∧ StoreAt w2 bs bl (scStep c mem s).1 (cnt n) ∧ Chg (OwnB O bs bl) w w2) := ⟨hd2, hs2, hc2⟩
    clear hd2 hs2 hc2 hx2
    cases hf : (scStep c mem s).2.pc.fin
    · obtain ⟨f, hv⟩ := yval_func x hf
      rw [hv] at k16
      go_wp2_with fail
      go_ret
      exact ⟨ret_bool hf.symm, HD.out⟩
    · rw [yval_done x hf] at k16
      go_wp2_with fail
      go_ret
      exact ⟨ret_bool hf.symm, HD.out⟩
  case claims =>
    have D := scClaims_does w hg h hs hm hB hO hBs hBl hq hev
    rw [hq] at g16
    simp only [YPc.val] at g16
    clear h hev
    go_enter Tryz.func39, Tryz.ntmps39
    go_wp2_with fail
    refine D.mono ?_; rintro r w2 ⟨rfl, hd2, hs2, hc2⟩
    obtain ⟨_, _, hx2, _⟩ := id hd2.ex
    have k16 := hx2.cell 16
    simp only [List.getElem?_cons_zero, List.getElem?_cons_succ] at k16
    have HD : Hid (ScAt w2 x bm bs bl c (scStep c mem s).2 (Grow O w w2) ∧ StoreAt w2 bs bl (scStep c mem s).1 (cnt n) ∧ Chg (OwnB O bs bl) w w2) := ⟨hd2, hs2, hc2⟩
    clear hd2 hs2 hc2 hx2
    cases hf : (scStep c mem s).2.pc.fin
    · obtain ⟨f, hv⟩ := yval_func x hf
      rw [hv] at k16
      go_wp2_with fail
      go_ret
      exact ⟨ret_bool hf.symm, HD.out⟩
    · rw [yval_done x hf] at k16
      go_wp2_with fail
      go_ret
      exact ⟨ret_bool hf.symm, HD.out⟩
  case last =>
    have D := scLast_does w hg h hs hm hB hO hBs hBl hq hev
    rw [hq] at g16
    simp only [YPc.val] at g16
    clear h hev
    go_enter Tryz.func39, Tryz.ntmps39
    go_wp2_with fail
    refine D.mono ?_; rintro r w2 ⟨rfl, hd2, hs2, hc2⟩
    obtain ⟨_, _, hx2, _⟩ := id hd2.ex
    have k16 := hx2.cell 16
    simp only [List.getElem?_cons_zero, List.getElem?_cons_succ] at k16
    have HD : Hid (ScAt w2 x bm bs bl c (scStep c mem s).2 (Grow O w w2) ∧ StoreAt w2 bs bl (scStep c mem s).1 (cnt n) ∧ Chg (OwnB O bs bl) w w2) := ⟨hd2, hs2, hc2⟩
    clear hd2 hs2 hc2 hx2
    cases hf : (scStep c mem s).2.pc.fin
    · obtain ⟨f, hv⟩ := yval_func x hf
      rw [hv] at k16
      go_wp2_with fail
      go_ret
      exact ⟨ret_bool hf.symm, HD.out⟩
    · rw [yval_done x hf] at k16
      go_wp2_with fail
      go_ret
      exact ⟨ret_bool hf.symm, HD.out⟩

set_option maxRecDepth 8000 in
set_option maxHeartbeats 6400000 in
theorem scStep_some {x bm bs bl B : Nat} {c : Cfg} {s : YS} {O : Nat → Prop} {mem : List Int} {n : Int} (w : World) (hg : Good c) (h : ScAt w x bm bs bl c s O) (hs : StoreAt w bs bl mem n) (hm : MapAt w B bm c) (hB : B ≤ w.heap.size) (hO : ∀ k, O k → B ≤ k) (hBs : B ≤ bs) (hBl : B ≤ bl) (hev : s.ev.k = 1 ∨ s.ev.k = 2 ∨ s.ev.k = 3 ∨ s.ev.k = 4) :
    Calls Tryz.prog 39 #[.pointer (some ⟨x, 0, none⟩), .pointer (some ⟨bs, 0, none⟩)] w fun r w' => r = .returned (.bool (scStep c mem s).2.pc.fin) ∧ ScAt w' x bm bs bl c (scStep c mem s).2 (Grow O w w') ∧ StoreAt w' bs bl (scStep c mem s).1 (cntIf s.pc.fin n) ∧ Chg (OwnB O bs bl) w w' := by
  have lx := h.own x h.xin
  have hxl := lx.1
  obtain ⟨cp0, ap0, hx0, hc0, hp0⟩ := id h.ex
  have hn0 := func_eql0
  have hn1 := func_eql
  have he := ev_neq s.ev hev
  have g16 := hx0.cell 16
  have g11 := hx0.cell 11
  have f11 := hx0.free 11
  have g12 := hx0.cell 12
  have f12 := hx0.free 12
  have g13 := hx0.cell 13
  have f13 := hx0.free 13
  have g14 := hx0.cell 14
  have f14 := hx0.free 14
  have g15 := hx0.cell 15
  have f15 := hx0.free 15
  simp only [YS.sv, List.getElem?_cons_zero, List.getElem?_cons_succ] at g11 g12 g13 g14 g15 g16
  obtain ⟨w1, hw1⟩ : ∃ w1, w1 = (((((w.setCell ⟨x, 11, none⟩ (.int .i64 0)).setCell ⟨x, 12, none⟩ (.int .i64 0)).setCell ⟨x, 13, none⟩ (.int .i64 0)).setCell ⟨x, 14, none⟩ (.int .i64 0)).setCell ⟨x, 15, none⟩ (.int .i64 0)) := ⟨_, rfl⟩
  have hcx : Chg (fun k => k = x) w w1 := by
    rw [hw1]
    exact ((((((Chg.refl (fun k => k = x) w).setCell _ _ (fun _ => rfl)).setCell _ _ (fun _ => rfl)).setCell _ _ (fun _ => rfl)).setCell _ _ (fun _ => rfl)).setCell _ _ (fun _ => rfl))
  have hx1 : Blk w1 x 147 (scL bm s.clear.sv cp0 ap0 (s.pc.val x)) := by
    rw [hw1]
    exact (((((hx0.set' 11 _ rfl).set' 12 _ rfl).set' 13 _ rfl).set' 14 _ rfl).set' 15 _ rfl)
  have z1 := hcx.size
  have hu : ScAt w1 x bm bs bl c s.clear O := by
    refine ⟨h.ucy, h.num, h.slo, fun q hq => ⟨Nat.lt_of_lt_of_le (h.own q hq).1 z1, (h.own q hq).2⟩, h.xin, cp0, ap0, hx1, fun e => ?_, fun e => ?_⟩
    · obtain ⟨y1, cb, y2, y3, y4, y5⟩ := hc0 e
      exact ⟨y1, cb, y2, y3.chg hcx y5, y4, y5⟩
    · obtain ⟨y1, ab, A, y2, y3, y4, y5⟩ := hp0 e
      exact ⟨y1, ab, A, y2, y3.chg hcx (fun q hq e => y5 (e ▸ hq)), y4, y5⟩
  have hs1 : StoreAt w1 bs bl mem n := hs.chg hcx (Ne.symm lx.2.1) (Ne.symm lx.2.2)
  have hm1 : MapAt w1 B bm c := hm.below (hcx.toBelow hB (fun q hq e => by have := hO x h.xin; omega)) (Nat.le_refl _)
  have hcw : Chg (OwnB O bs bl) w w1 := hcx.mono (fun k _ e => .inl (e ▸ h.xin))
  have fin : ∀ (w' : World) r, (ScAt w' x bm bs bl c (scStep c mem s).2 (Grow O w1 w') ∧ StoreAt w' bs bl (scStep c mem s).1 r ∧ Chg (OwnB O bs bl) w1 w') → ScAt w' x bm bs bl c (scStep c mem s).2 (Grow O w w') ∧ StoreAt w' bs bl (scStep c mem s).1 r ∧ Chg (OwnB O bs bl) w w' := by
    rintro w' r ⟨q1, q2, q3⟩
    refine ⟨q1.more (fun k hk => ?_) (grow_ok h.own (Nat.le_trans z1 q3.size) hs.lt.1 hs.lt.2), q2, hcw.trans q3⟩
    rcases hk with hk | hk
    · exact .inl hk
    · exact .inr ⟨by omega, hk.2⟩
  have FIN : Hid _ := fin
  clear fin hcw hc0 hp0 hev hx0
  have n16 := hx1.cell 16
  simp only [List.getElem?_cons_zero, List.getElem?_cons_succ] at n16
  cases hq : s.pc
  case done =>
    have hst : scStep c mem s = (mem, s.clear) := scStep_done hq
    rw [hq] at g16 n16
    simp only [YPc.val] at g16 n16
    have HST : Hid _ := hst
    have HU : Hid _ := hu
    have HW : Hid _ := hw1
    have hfin : s.clear.pc.fin = true := by unfold YS.clear; rw [hq]; rfl
    clear hst hu hx1 hw1 n16
    go_enter Tryz.func39, Tryz.ntmps39
    go_wp2_with fail
    go_ret
    rw [← HW.out]
    refine ⟨by rw [HST.out]; exact ret_bool hfin.symm, FIN.out w1 _ ⟨?_, ?_, Chg.refl _ _⟩⟩
    · rw [HST.out, Grow.self]; exact HU.out
    · rw [HST.out]; exact hs1
  case head =>
    have D := scHead_does w1 hg hu hs1 hm1 (Nat.le_trans hB z1) hO hBs hBl hq rfl
    rw [scStep_clear] at D
    rw [hq] at g16 n16
    simp only [YPc.val] at g16 n16
    clear hu hx1
    go_enter Tryz.func39, Tryz.ntmps39
    go_wp2_with fail
    rw [← hw1]
    refine D.mono ?_; rintro r w2 ⟨rfl, hd2, hs2, hc2⟩
    obtain ⟨_, _, hx2, _⟩ := id hd2.ex
    have k16 := hx2.cell 16
    simp only [List.getElem?_cons_zero, List.getElem?_cons_succ] at k16
    have HD : Hid _ := FIN.out w2 _ ⟨hd2, hs2, hc2⟩
    clear hd2 hs2 hc2 FIN hw1 hx2
    cases hf : (scStep c mem s).2.pc.fin
    · obtain ⟨f, hv⟩ := yval_func x hf
      rw [hv] at k16
      go_wp2_with fail
      go_ret
      exact ⟨ret_bool hf.symm, HD.out⟩
    · rw [yval_done x hf] at k16
      go_wp2_with fail
      go_ret
      exact ⟨ret_bool hf.symm, HD.out⟩
  case count =>
    have D := scCount_does w1 hg hu hs1 hm1 (Nat.le_trans hB z1) hO hBs hBl hq rfl
    rw [scStep_clear] at D
    rw [hq] at g16 n16
    simp only [YPc.val] at g16 n16
    clear hu hx1
    go_enter Tryz.func39, Tryz.ntmps39
    go_wp2_with fail
    rw [← hw1]
    refine D.mono ?_; rintro r w2 ⟨rfl, hd2, hs2, hc2⟩
    obtain ⟨_, _, hx2, _⟩ := id hd2.ex
    have k16 := hx2.cell 16
    simp only [List.getElem?_cons_zero, List.getElem?_cons_succ] at k16
    have HD : Hid _ := FIN.out w2 _ ⟨hd2, hs2, hc2⟩
    clear hd2 hs2 hc2 FIN hw1 hx2
    cases hf : (scStep c mem s).2.pc.fin
    · obtain ⟨f, hv⟩ := yval_func x hf
      rw [hv] at k16
      go_wp2_with fail
      go_ret
      exact ⟨ret_bool hf.symm, HD.out⟩
    · rw [yval_done x hf] at k16
      go_wp2_with fail
      go_ret
      exact ⟨ret_bool hf.symm, HD.out⟩
  case adds =>
    have D := scAdds_does w1 hg hu hs1 hm1 (Nat.le_trans hB z1) hO hBs hBl hq rfl
    rw [scStep_clear] at D
    rw [hq] at g16 n16
    simp only [YPc.val] at g16 n16
    clear hu hx1
    go_enter Tryz.func39, Tryz.ntmps39
    go_wp2_with fail
    rw [← hw1]
    refine D.mono ?_; rintro r w2 ⟨rfl, hd2, hs2, hc2⟩
    obtain ⟨_, _, hx2, _⟩ := id hd2.ex
    have k16 := hx2.cell 16
    simp only [List.getElem?_cons_zero, List.getElem?_cons_succ] at k16
    have HD : Hid _ := FIN.out w2 _ ⟨hd2, hs2, hc2⟩
    clear hd2 hs2 hc2 FIN hw1 hx2
    cases hf : (scStep c mem s).2.pc.fin
    · obtain ⟨f, hv⟩ := yval_func x hf
      rw [hv] at k16
      go_wp2_with fail
      go_ret
      exact ⟨ret_bool hf.symm, HD.out⟩
    · rw [yval_done x hf] at k16
      go_wp2_with fail
      go_ret
      exact ⟨ret_bool hf.symm, HD.out⟩
  case slot =>
    have D := scSlot_does w1 hg hu hs1 hm1 (Nat.le_trans hB z1) hO hBs hBl hq rfl
    rw [scStep_clear] at D
    rw [hq] at g16 n16
    simp only [YPc.val] at g16 n16
    clear hu hx1
    go_enter Tryz.func39, Tryz.ntmps39
    go_wp2_with fail
    rw [← hw1]
    refine D.mono ?_; rintro r w2 ⟨rfl, hd2, hs2, hc2⟩
    obtain ⟨_, _, hx2, _⟩ := id hd2.ex
    have k16 := hx2.cell 16
    simp only [List.getElem?_cons_zero, List.getElem?_cons_succ] at k16
    have HD : Hid _ := FIN.out w2 _ ⟨hd2, hs2, hc2⟩
    clear hd2 hs2 hc2 FIN hw1 hx2
    cases hf : (scStep c mem s).2.pc.fin
    · obtain ⟨f, hv⟩ := yval_func x hf
      rw [hv] at k16
      go_wp2_with fail
      go_ret
      exact ⟨ret_bool hf.symm, HD.out⟩
    · rw [yval_done x hf] at k16
      go_wp2_with fail
      go_ret
      exact ⟨ret_bool hf.symm, HD.out⟩
  case claims =>
    have D := scClaims_does w1 hg hu hs1 hm1 (Nat.le_trans hB z1) hO hBs hBl hq rfl
    rw [scStep_clear] at D
    rw [hq] at g16 n16
    simp only [YPc.val] at g16 n16
    clear hu hx1
    go_enter Tryz.func39, Tryz.ntmps39
    go_wp2_with fail
    rw [← hw1]
    refine D.mono ?_; rintro r w2 ⟨rfl, hd2, hs2, hc2⟩
    obtain ⟨_, _, hx2, _⟩ := id hd2.ex
    have k16 := hx2.cell 16
    simp only [List.getElem?_cons_zero, List.getElem?_cons_succ] at k16
    have HD : Hid _ := FIN.out w2 _ ⟨hd2, hs2, hc2⟩
    clear hd2 hs2 hc2 FIN hw1 hx2
    cases hf : (scStep c mem s).2.pc.fin
    · obtain ⟨f, hv⟩ := yval_func x hf
      rw [hv] at k16
      go_wp2_with fail
      go_ret
      exact ⟨ret_bool hf.symm, HD.out⟩
    · rw [yval_done x hf] at k16
      go_wp2_with fail
      go_ret
      exact ⟨ret_bool hf.symm, HD.out⟩
  case last =>
    have D := scLast_does w1 hg hu hs1 hm1 (Nat.le_trans hB z1) hO hBs hBl hq rfl
    rw [scStep_clear] at D
    rw [hq] at g16 n16
    simp only [YPc.val] at g16 n16
    clear hu hx1
    go_enter Tryz.func39, Tryz.ntmps39
    go_wp2_with fail
    rw [← hw1]
    refine D.mono ?_; rintro r w2 ⟨rfl, hd2, hs2, hc2⟩
    obtain ⟨_, _, hx2, _⟩ := id hd2.ex
    have k16 := hx2.cell 16
    simp only [List.getElem?_cons_zero, List.getElem?_cons_succ] at k16
    have HD : Hid _ := FIN.out w2 _ ⟨hd2, hs2, hc2⟩
    clear hd2 hs2 hc2 FIN hw1 hx2
    cases hf : (scStep c mem s).2.pc.fin
    · obtain ⟨f, hv⟩ := yval_func x hf
      rw [hv] at k16
      go_wp2_with fail
      go_ret
      exact ⟨ret_bool hf.symm, HD.out⟩
    · rw [yval_done x hf] at k16
      go_wp2_with fail
      go_ret
      exact ⟨ret_bool hf.symm, HD.out⟩

/-- Any step of a scan's machine. -/
theorem scStep_any {x bm bs bl B : Nat} {c : Cfg} {s : YS} {O : Nat → Prop} {mem : List Int} {n : Int} (w : World) (hg : Good c) (h : ScAt w x bm bs bl c s O) (hs : StoreAt w bs bl mem n) (hm : MapAt w B bm c) (hB : B ≤ w.heap.size) (hO : ∀ k, O k → B ≤ k) (hBs : B ≤ bs) (hBl : B ≤ bl) (hev : EvOk s.ev) :
    Calls Tryz.prog 39 #[.pointer (some ⟨x, 0, none⟩), .pointer (some ⟨bs, 0, none⟩)] w fun r w' => r = .returned (.bool (scStep c mem s).2.pc.fin) ∧ ScAt w' x bm bs bl c (scStep c mem s).2 (Grow O w w') ∧ StoreAt w' bs bl (scStep c mem s).1 (cntIf s.pc.fin n) ∧ Chg (OwnB O bs bl) w w' := by
  rcases hev with e | e
  · exact scStep_zero w hg h hs hm hB hO hBs hBl e
  · exact scStep_some w hg h hs hm hB hO hBs hBl e

end Go.Proofs.YtapdpclgbpgklaaGreat
