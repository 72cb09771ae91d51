/- A mutator's tasks that nobody else has seen: packets that are put; any step; a buffer, and its machines, are made: walked. -/
import Derived.Test.YtapdpclgbpgklaaBuf2
namespace Go.Proofs.Ytapdpclgbpgklaa
open Go.RowKit

set_option maxRecDepth 8000 in
theorem bputs_does {x bb bm bs bl base B : Nat} {c : Cfg} {ts : List Int} {s : BS} {O : Nat → Prop} {mem : List Int} {n : Int} (w : World) (hg : Good c) (h : BuAt w x bb bm bs bl base ts s O) (hs : StoreAt w bs bl mem n) (hm : MapAt w B bm c) (hp : s.pc = .puts) (hev : s.ev = Ev.zero) :
    Calls Try.prog 72 #[.pointer (some ⟨x, 0, none⟩), .pointer (some ⟨bs, 0, none⟩)] w fun r w' => r = .returned (.tuple #[]) ∧ BuAt w' x bb bm bs bl base (bsStep c mem ts s).2.1 (bsStep c mem ts s).2.2 (Grow O w w') ∧ StoreAt w' bs bl (bsStep c mem ts s).1 (cnt n) ∧ Chg (OwnB O bs bl) w w' := by
  obtain ⟨pc, v, cm, pm, ev⟩ := s
  simp only at hp hev
  subst hp hev
  obtain ⟨all, own, xin, bin, xb, bbase, tv, cp, pp, hb, hr, hx, hgo, _, h2⟩ := h
  obtain ⟨hpf, hok, pb, pbi, pgt, rfl, hpm, ⟨o1, o2, o3⟩, ⟨n1, n2, n3⟩, ⟨m1, m2, m3⟩, gp⟩ := h2 rfl
  simp only at hpf hok hpm hb hr hx
  have lx := own x xin
  have lb := own bb bin
  have l1 := own pb o1
  have l2 := own pbi o2
  have l3 := own pgt o3
  obtain ⟨ls, ll⟩ := hs.lt
  have D := pstep_all w hg hpm hs hm l3.1 hok
  rw [hpf] at D
  have hap := hpm.ap
  simp only [bsStep]
  have hok' := pmStep_ok (c := c) (mem := mem) hok
  have hst : ∀ k, PmB pb pbi bs bl k → OwnB O bs bl k := by
    rintro k (rfl | rfl | rfl | rfl)
    · exact .inl o1
    · exact .inl o2
    · exact .inr (.inl rfl)
    · exact .inr (.inr rfl)
  have nsx : ¬ PmB pb pbi bs bl x := fun e => by rcases e with e | e | e | e; exact n1 e.symm; exact n2 e.symm; exact lx.2.1 e; exact lx.2.2 e
  have nsb : ¬ PmB pb pbi bs bl bb := fun e => by rcases e with e | e | e | e; exact m1 e.symm; exact m2 e.symm; exact lb.2.1 e; exact lb.2.2 e
  have nsg : ∀ g, tv.ownBlock = some g → ¬ PmB pb pbi bs bl g := fun g e e' => by
    have h1 := own g (hgo g e).1
    have h2 := gp g e
    rcases e' with e' | e' | e' | e' <;> omega
  generalize pmStep c mem pm = rr at *
  obtain ⟨mem2, pm2⟩ := rr
  simp only at D hok' ⊢
  have x3 := hx.cell 3
  simp only [List.getElem?_cons_zero, List.getElem?_cons_succ] at x3
  cases hf : pm2.pc.fin
  · simp only [Bool.false_eq_true, ↓reduceIte]
    rw [hf] at D
    go_enter Try.func72, Try.ntmps72
    go_wp2_with fail
    refine D.mono ?_; rintro r w2 ⟨rfl, ⟨bi', hp2, hbi⟩, hs2, hc2⟩
    have HB : Hid (bi' = pbi ∨ w.heap.size ≤ bi') := hbi
    clear hbi
    go_wp2_with fail
    go_end0
    obtain ⟨b2, hp3, hb2⟩ := hp2.home (bi := pbi) ⟨hap.1, hap.2.2.2.1, hap.2.2.2.2.1, hap.2.2.2.2.2.2.1⟩
    have hG : Grow O w w2 b2 ∧ b2 ≠ x ∧ b2 ≠ bb ∧ ∀ g, tv.ownBlock = some g → g ≠ b2 := by
      rcases hb2 with rfl | ⟨rfl, hlt⟩
      · exact ⟨.inl o2, n2, m2, fun g e => (gp g e).2.1⟩
      · rcases HB.out with rfl | hbi
        · exact ⟨.inl o2, n2, m2, fun g e => (gp g e).2.1⟩
        · exact ⟨.inr ⟨hbi, hlt⟩, by omega, by omega, fun g e => by have := own g (hgo g e).1; omega⟩
    refine ⟨rfl, ⟨all, grow_ok own hc2.size ls ll, .inl xin, .inl bin, xb, ⟨bbase.1, Nat.le_trans bbase.2 hc2.size⟩, tv, cp, _, hc2.blk hb nsb, ownsRow_chg hr hc2 nsg, hc2.blk hx nsx, fun g e => ⟨.inl (hgo g e).1, (hgo g e).2⟩, fun e => (by cases e), fun _ => ⟨hf, hok', pb, b2, pgt, rfl, hp3, ⟨.inl o1, hG.1, .inl o3⟩, ⟨n1, hG.2.1, n3⟩, ⟨m1, hG.2.2.1, m3⟩, fun g e => ⟨(gp g e).1, hG.2.2.2 g e, (gp g e).2.2⟩⟩⟩, hs2, hc2.mono (fun k _ e => hst k e)⟩
  · simp only [↓reduceIte]
    rw [hf] at D
    go_enter Try.func72, Try.ntmps72
    go_wp2_with fail
    refine D.mono ?_; rintro r w2 ⟨rfl, ⟨bi', hp2, hbi⟩, hs2, hc2⟩
    clear hbi hp2
    have hx2 := hc2.blk hx nsx
    have hb2 := hc2.blk hb nsb
    have k0 := hx2.cell 0
    have k9 := hx2.cell 9
    have f9 := hx2.free 9
    have b1 := hb2.cell 1
    have f1 := hb2.free 1
    simp only [List.getElem?_cons_zero, List.getElem?_cons_succ] at k0 k9 b1
    have hxb : ¬ x = bb := xb
    have hbx : ¬ bb = x := Ne.symm xb
    go_wp2_with fail
    go_end0
    have hcb : Chg (fun k => k = bb) w2 (w2.setCell ⟨bb, 1, none⟩ (.slice none 0 0)) := (Chg.refl _ _).setCell _ _ (fun _ => rfl)
    have hb3 : Blk (w2.setCell ⟨bb, 1, none⟩ (.slice none 0 0)) bb 80 [.pointer (some ⟨bm, 0, none⟩), .slice none 0 0] := hb2.set' 1 _ rfl
    have hx3 := hcb.blk hx2 hxb
    have hcx : Chg (fun k => k = x) (w2.setCell ⟨bb, 1, none⟩ (.slice none 0 0)) ((w2.setCell ⟨bb, 1, none⟩ (.slice none 0 0)).setCell ⟨x, 9, none⟩ .nilFunc) := (Chg.refl _ _).setCell _ _ (fun _ => rfl)
    have hcc : Chg (fun k => k = bb ∨ k = x) w2 ((w2.setCell ⟨bb, 1, none⟩ (.slice none 0 0)).setCell ⟨x, 9, none⟩ .nilFunc) := (hcb.mono (fun _ _ e => .inl e)).trans (hcx.mono (fun _ _ e => .inr e))
    have hcw : Chg (OwnB O bs bl) w ((w2.setCell ⟨bb, 1, none⟩ (.slice none 0 0)).setCell ⟨x, 9, none⟩ .nilFunc) := (hc2.mono (fun k _ e => hst k e)).trans (hcc.mono (fun k _ e => by rcases e with rfl | rfl; exact .inl bin; exact .inl xin))
    refine ⟨rfl, ⟨fun y hy => (by cases hy), grow_ok own hcw.size ls ll, .inl xin, .inl bin, xb, ⟨bbase.1, Nat.le_trans bbase.2 hcw.size⟩, .slice none 0 0, cp, _, hcx.blk hb3 hbx, World.ownsRow_nil _ _ _ _, hx3.set' 9 _ rfl, fun g e => (by cases e), fun e => (by cases e), fun e => by cases e⟩, hs2.chg hcc (fun e => by rcases e with e | e; exact lb.2.1 e.symm; exact lx.2.1 e.symm) (fun e => by rcases e with e | e; exact lb.2.2 e.symm; exact lx.2.2 e.symm), hcw⟩

theorem bval_func {q : BPc} (b : Nat) (h : q.fin = false) : ∃ f : FuncId, q.val b = .func (.func f) #[.pointer (some ⟨b, 0, none⟩)] #[] := by
  cases q
  · cases h
  all_goals exact ⟨_, rfl⟩

theorem bval_done {q : BPc} (b : Nat) (h : q.fin = true) : q.val b = .nilFunc := by
  cases q
  · rfl
  all_goals cases h

/-- The event is cleared ahead of a step. -/
def BS.clear (s : BS) : BS := { s with ev := Ev.zero }

theorem bsStep_clear (c : Cfg) (mem ts : List Int) (s : BS) : bsStep c mem ts s.clear = bsStep c mem ts s := rfl

set_option maxRecDepth 8000 in
set_option maxHeartbeats 1600000 in
/-- Any step of a buffer's machine. -/
theorem bstep_any {x bb bm bs bl base B : Nat} {c : Cfg} {ts : List Int} {s : BS} {O : Nat → Prop} {mem : List Int} {n : Int} (w : World) (hg : Good c) (h : BuAt w x bb bm bs bl base ts s O) (hlt : ts.length < 999) (hs : StoreAt w bs bl mem n) (hm : MapAt w B bm c) (hB : B ≤ w.heap.size) (hO : ∀ k, O k → B ≤ k) (hBs : B ≤ bs) (hBl : B ≤ bl) :
    Calls Try.prog 15 #[.pointer (some ⟨x, 0, none⟩), .pointer (some ⟨bs, 0, none⟩)] w fun r w' => r = .returned (.bool (bsStep c mem ts s).2.2.pc.fin) ∧ BuAt w' x bb bm bs bl base (bsStep c mem ts s).2.1 (bsStep c mem ts s).2.2 (Grow O w w') ∧ StoreAt w' bs bl (bsStep c mem ts s).1 (cntIf s.pc.fin n) ∧ Chg (OwnB O bs bl) w w' := by
  have lx := h.own x h.xin
  have hxl := lx.1
  -- the event is cleared
  obtain ⟨tv0, cp0, pp0, hb0, hr0, hx0, hgo0, hc0, hp0⟩ := id h.ex
  have g4 := hx0.cell 4
  have g5 := hx0.cell 5
  have g6 := hx0.cell 6
  have g7 := hx0.cell 7
  have g8 := hx0.cell 8
  have g9 := hx0.cell 9
  have f4 := hx0.free 4
  have f5 := hx0.free 5
  have f6 := hx0.free 6
  have f7 := hx0.free 7
  have f8 := hx0.free 8
  simp only [List.getElem?_cons_zero, List.getElem?_cons_succ] at g4 g5 g6 g7 g8 g9
  have hn0 := func_eql0
  have hn1 := func_eql
  obtain ⟨w1, hw1⟩ : ∃ w1, w1 = (((((w.setCell ⟨x, 4, none⟩ (.int .i64 0)).setCell ⟨x, 5, none⟩ (.int .i64 0)).setCell ⟨x, 6, none⟩ (.int .i64 0)).setCell ⟨x, 7, none⟩ (.int .i64 0)).setCell ⟨x, 8, none⟩ (.int .i64 0)) := ⟨_, rfl⟩
  have hcx : Chg (fun k => k = x) w w1 := by
    rw [hw1]
    exact ((((((Chg.refl (fun k => k = x) w).setCell _ _ (fun _ => rfl)).setCell _ _ (fun _ => rfl)).setCell _ _ (fun _ => rfl)).setCell _ _ (fun _ => rfl)).setCell _ _ (fun _ => rfl))
  have hx1 : Blk w1 x 85 (bsL bb s.v cp0 pp0 Ev.zero (s.pc.val x)) := by
    rw [hw1]
    exact ((((hx0.set' 4 _ rfl).set' 5 _ rfl).set' 6 _ rfl).set' 7 _ rfl).set' 8 _ rfl
  have z1 := hcx.size
  have hu : BuAt w1 x bb bm bs bl base ts s.clear O := by
    refine ⟨h.all, fun q hq => ⟨Nat.lt_of_lt_of_le (h.own q hq).1 z1, (h.own q hq).2⟩, h.xin, h.bin, h.xb, ⟨h.bbase.1, Nat.le_trans h.bbase.2 z1⟩, tv0, cp0, pp0, hcx.blk hb0 (Ne.symm h.xb), ownsRow_chg hr0 hcx (fun g e => (hgo0 g e).2), hx1, hgo0, fun e => ?_, fun e => ?_⟩
    · obtain ⟨y1, cb, y2, y3, y4, y5, y6⟩ := hc0 e
      exact ⟨y1, cb, y2, y3.chg hcx y5, y4, y5, y6⟩
    · obtain ⟨y1, y2, pb, pbi, pgt, y3, y4, y5, y6, y7⟩ := hp0 e
      exact ⟨y1, y2, pb, pbi, pgt, y3, y4.chg hcx y6.1 y6.2.1 y6.2.2, y5, y6, y7⟩
  have hs1 : StoreAt w1 bs bl mem n := hs.chg hcx (Ne.symm lx.2.1) (Ne.symm lx.2.2)
  have hm1 : MapAt w1 B bm c := hm.below (hcx.toBelow hB (fun q hq e => by have := hO x h.xin; omega)) (Nat.le_refl _)
  have hcw : Chg (OwnB O bs bl) w w1 := hcx.mono (fun k _ e => .inl (e ▸ h.xin))
  have fin : ∀ (w' : World) r, (BuAt w' x bb bm bs bl base (bsStep c mem ts s).2.1 (bsStep c mem ts s).2.2 (Grow O w1 w') ∧ StoreAt w' bs bl (bsStep c mem ts s).1 r ∧ Chg (OwnB O bs bl) w1 w') → BuAt w' x bb bm bs bl base (bsStep c mem ts s).2.1 (bsStep c mem ts s).2.2 (Grow O w w') ∧ StoreAt w' bs bl (bsStep c mem ts s).1 r ∧ Chg (OwnB O bs bl) w w' := by
    rintro w' r ⟨q1, q2, q3⟩
    refine ⟨q1.more (fun k hk => ?_) (grow_ok h.own (Nat.le_trans z1 q3.size) hs.lt.1 hs.lt.2), q2, hcw.trans q3⟩
    rcases hk with hk | hk
    · exact .inl hk
    · exact .inr ⟨by omega, hk.2⟩
  have FIN : Hid _ := fin
  clear fin hcw hb0 hr0 hgo0 hc0 hp0
  have n9 := hx1.cell 9
  simp only [List.getElem?_cons_zero, List.getElem?_cons_succ] at n9
  cases hq : s.pc
  case done =>
    have hst : bsStep c mem ts s = (mem, ts, ⟨.done, s.v, s.cm, s.pm, Ev.zero⟩) := by unfold bsStep; rw [hq]
    rw [hq] at g9
    simp only [BPc.val] at g9
    have hfin : s.pc.fin = true := by rw [hq]; rfl
    have HST : Hid _ := hst
    have HU : Hid _ := hu
    have HW : Hid _ := hw1
    clear hst hu hx1 hw1 n9
    go_enter Try.func15, Try.ntmps15
    go_wp2_with fail
    go_ret
    rw [← HW.out]
    refine ⟨by rw [HST.out]; rfl, FIN.out w1 _ ⟨?_, ?_, Chg.refl _ _⟩⟩
    · have hcl : s.clear = ⟨.done, s.v, s.cm, s.pm, Ev.zero⟩ := by unfold BS.clear; rw [hq]
      have := HU.out
      rw [hcl] at this
      rw [HST.out, Grow.self]; exact this
    · rw [HST.out]; exact hs1
  case claims =>
    have D := bclaims_does w1 hg hu hlt hs1 hm1 (Nat.le_trans hB z1) hO hBs hBl hq rfl
    rw [bsStep_clear] at D
    rw [hq] at g9 n9
    simp only [BPc.val] at g9 n9
    have HU : Hid _ := hu
    clear hu hx1
    go_enter Try.func15, Try.ntmps15
    go_wp2_with fail
    rw [← hw1]
    refine D.mono ?_; rintro r w2 ⟨rfl, hd2, hs2, hc2⟩
    obtain ⟨_, _, _, _, _, hx2, _⟩ := id hd2.ex
    have k9 := hx2.cell 9
    simp only [List.getElem?_cons_zero, List.getElem?_cons_succ] at k9
    have HD : Hid _ := FIN.out w2 _ ⟨hd2, hs2, hc2⟩
    clear hd2 hs2 hc2 FIN hw1
    cases hf : (bsStep c mem ts s).2.2.pc.fin
    · obtain ⟨f, hv⟩ := bval_func x hf
      rw [hv] at k9
      go_wp2_with fail
      go_ret
      exact ⟨ret_bool hf.symm, HD.out⟩
    · rw [bval_done x hf] at k9
      go_wp2_with fail
      go_ret
      exact ⟨ret_bool hf.symm, HD.out⟩
  case puts =>
    have D := bputs_does w1 hg hu hs1 hm1 hq rfl
    rw [bsStep_clear] at D
    rw [hq] at g9 n9
    simp only [BPc.val] at g9 n9
    have HU : Hid _ := hu
    clear hu hx1
    go_enter Try.func15, Try.ntmps15
    go_wp2_with fail
    rw [← hw1]
    refine D.mono ?_; rintro r w2 ⟨rfl, hd2, hs2, hc2⟩
    obtain ⟨_, _, _, _, _, hx2, _⟩ := id hd2.ex
    have k9 := hx2.cell 9
    simp only [List.getElem?_cons_zero, List.getElem?_cons_succ] at k9
    have HD : Hid _ := FIN.out w2 _ ⟨hd2, hs2, hc2⟩
    clear hd2 hs2 hc2 FIN hw1
    cases hf : (bsStep c mem ts s).2.2.pc.fin
    · obtain ⟨f, hv⟩ := bval_func x hf
      rw [hv] at k9
      go_wp2_with fail
      go_ret
      exact ⟨ret_bool hf.symm, HD.out⟩
    · rw [bval_done x hf] at k9
      go_wp2_with fail
      go_ret
      exact ⟨ret_bool hf.symm, HD.out⟩

end Go.Proofs.Ytapdpclgbpgklaa
