/- A node that is marked already, and one that there isn't: walked. -/
import Derived.Test.YtapdpclgbpgklaaAw18
import Derived.Test.YtapdpclgbpgklaaSm18
import Derived.Test.YtapdpclgbpgklaaSame
import Derived.Test.YtapdpclgbpgklaaSeq
namespace Go.Proofs.Ytapdpclgbpgklaa
open Go.RowKit

theorem BuAt.drewN {w : World} {x bb bm bs bl base : Nat} {ts : List Int} {s : BS} {O : Nat → Prop} (h : BuAt w x bb bm bs bl base ts s O) (k : Nat) : BuAt (w.drewN k) x bb bm bs bl base ts s O := h.chg (S := fun _ => False) ((Chg.refl _ _).drewN k) (fun _ _ => id)

set_option maxRecDepth 8000 in
/-- A step of a machine that is finished: its event is cleared. -/
theorem bstep_done {x bb bm bs bl base : Nat} {ts : List Int} {s : BS} {O : Nat → Prop} (w : World) (sp : Value) (h : BuAt w x bb bm bs bl base ts s O) (hq : s.pc = .done) :
    Calls Try.prog 15 #[.pointer (some ⟨x, 0, none⟩), sp] w fun r w' => r = .returned (.bool true) ∧ BuAt w' x bb bm bs bl base ts s.clear O ∧ Chg (fun k => k = x) w w' := by
  obtain ⟨all, own, xin, bin, xb, bbase, tv0, cp0, pp0, hb0, hr0, hx0, hgo0, hc0, hp0⟩ := h
  have g4 := hx0.cell 4
  have g5 := hx0.cell 5
  have g6 := hx0.cell 6
  have g7 := hx0.cell 7
  have g8 := hx0.cell 8
  have g9 := hx0.cell 9
  have f4 := hx0.free 4
  have f5 := hx0.free 5
  have f6 := hx0.free 6
  have f7 := hx0.free 7
  have f8 := hx0.free 8
  rw [hq] at g9
  simp only [List.getElem?_cons_zero, List.getElem?_cons_succ, BPc.val] at g4 g5 g6 g7 g8 g9
  have hn0 := func_eql0
  obtain ⟨w1, hw1⟩ : ∃ w1, w1 = (((((w.setCell ⟨x, 4, none⟩ (.int .i64 0)).setCell ⟨x, 5, none⟩ (.int .i64 0)).setCell ⟨x, 6, none⟩ (.int .i64 0)).setCell ⟨x, 7, none⟩ (.int .i64 0)).setCell ⟨x, 8, none⟩ (.int .i64 0)) := ⟨_, rfl⟩
  have hcx : Chg (fun k => k = x) w w1 := by
    rw [hw1]
    exact ((((((Chg.refl (fun k => k = x) w).setCell _ _ (fun _ => rfl)).setCell _ _ (fun _ => rfl)).setCell _ _ (fun _ => rfl)).setCell _ _ (fun _ => rfl)).setCell _ _ (fun _ => rfl))
  have hx1 : Blk w1 x 85 (bsL bb s.v cp0 pp0 Ev.zero (s.pc.val x)) := by
    rw [hw1]
    exact ((((hx0.set' 4 _ rfl).set' 5 _ rfl).set' 6 _ rfl).set' 7 _ rfl).set' 8 _ rfl
  have z1 := hcx.size
  have hu : BuAt w1 x bb bm bs bl base ts s.clear O := by
    refine ⟨all, fun q hq => ⟨Nat.lt_of_lt_of_le (own q hq).1 z1, (own q hq).2⟩, xin, bin, xb, ⟨bbase.1, Nat.le_trans bbase.2 z1⟩, tv0, cp0, pp0, hcx.blk hb0 (Ne.symm xb), ownsRow_chg hr0 hcx (fun g e => (hgo0 g e).2), hx1, hgo0, fun e => ?_, fun e => ?_⟩
    · rw [show s.clear.pc = s.pc from rfl, hq] at e; cases e
    · rw [show s.clear.pc = s.pc from rfl, hq] at e; cases e
  have HU : Hid _ := hu
  have HW : Hid _ := hw1
  clear hu hx1 hw1 hx0 hb0
  go_enter Try.func15, Try.ntmps15
  go_wp2_with fail
  go_ret
  rw [← HW.out]
  exact ⟨rfl, HU.out, hcx⟩

theorem ev_zero_eql (W : World) : (binOp .eql 60 (.agg #[.int .i64 0, .int .i64 0, .int .i64 0, .int .i64 0, .int .i64 0]) (.agg #[.int .i64 0, .int .i64 0, .int .i64 0, .int .i64 0, .int .i64 0])).run Try.prog W = .ok (.bool true) W := by kernel_rfl

set_option maxRecDepth 8000 in
set_option maxHeartbeats 6400000 in
theorem least18_any (c : Cfg) (v cycle n : Int) (w : World) (hv : 0 ≤ v ∧ v ≤ 255) (hcy : U cycle) (hn : -9223372036854775808 ≤ n ∧ n ≤ 9223372036854775807) :
    Calls Try.prog 5 #[.agg #[.int .i64 c.c0, .int .i64 c.c1, .int .i64 c.c2, .int .i64 c.c3, .int .i64 c.c4, .int .i64 c.mks, .int .i64 c.mus, .int .i64 c.dq, .int .i64 c.ch, .int .i64 c.bu, .int .i64 c.ro, .int .i64 c.sw], .int .u8 v, .int .u64 cycle, .int .i64 n] w fun e w' => e = .returned (.bool true) ∧ Kept w w' := by
  have hb := Blk.new w 24 [.int .i64 c.c0, .int .i64 c.c1, .int .i64 c.c2, .int .i64 c.c3, .int .i64 c.c4, .int .i64 c.mks, .int .i64 c.mus, .int .i64 c.dq, .int .i64 c.ch, .int .i64 c.bu, .int .i64 c.ro, .int .i64 c.sw]
  have hk0 : Kept w (w.alloc (.cells ([.int .i64 c.c0, .int .i64 c.c1, .int .i64 c.c2, .int .i64 c.c3, .int .i64 c.c4, .int .i64 c.mks, .int .i64 c.mus, .int .i64 c.dq, .int .i64 c.ch, .int .i64 c.bu, .int .i64 c.ro, .int .i64 c.sw] : List Value).toArray 24)) := (Below.refl _ _).alloc (Nat.le_refl _) _
  go_enter Try.func5, Try.ntmps5
  go_wp2_with fail
  generalize w.alloc (.cells ([.int .i64 c.c0, .int .i64 c.c1, .int .i64 c.c2, .int .i64 c.c3, .int .i64 c.c4, .int .i64 c.mks, .int .i64 c.mus, .int .i64 c.dq, .int .i64 c.ch, .int .i64 c.bu, .int .i64 c.ro, .int .i64 c.sw] : List Value).toArray 24) = w0 at *
  refine (awake18_any w0).mono ?_; rintro e w1 ⟨rfl, hk1⟩
  have hb1 := hk1.blk hb
  have hK1 : Kept w w1 := hk0.trans' hk1
  clear hb hk0 hk1 
  have c0 := hb1.cell 0
  have c1 := hb1.cell 1
  have c2 := hb1.cell 2
  have c3 := hb1.cell 3
  have c4 := hb1.cell 4
  have c5 := hb1.cell 5
  have c6 := hb1.cell 6
  have c7 := hb1.cell 7
  have c8 := hb1.cell 8
  have c9 := hb1.cell 9
  have c10 := hb1.cell 10
  have c11 := hb1.cell 11
  simp only [List.getElem?_cons_zero, List.getElem?_cons_succ] at c0 c1 c2 c3 c4 c5 c6 c7 c8 c9 c10 c11
  go_wp2_with fail
  refine (small18_any c w1).mono ?_; rintro e w2 ⟨⟨v, rfl, hv⟩, hk2⟩
  have HV : Hid (v = true → Good c ∧ Small c) := hv
  have hb2 := hk2.blk hb1
  have hK2 : Kept w w2 := hK1.trans' hk2
  clear hv hk2 hb1 hK1 c0 c1 c2 c3 c4 c5 c6 c7 c8 c9 c10 c11 
  cases v
  · go_wp2_with fail
    go_ret
    exact ⟨rfl, hK2⟩
  have hgs := HV.out rfl
  have Hg : Hid (Good c ∧ Small c) := hgs
  clear HV hgs
  have c0 := hb2.cell 0
  have c1 := hb2.cell 1
  have c2 := hb2.cell 2
  have c3 := hb2.cell 3
  have c4 := hb2.cell 4
  have c5 := hb2.cell 5
  have c6 := hb2.cell 6
  have c7 := hb2.cell 7
  have c8 := hb2.cell 8
  have c9 := hb2.cell 9
  have c10 := hb2.cell 10
  have c11 := hb2.cell 11
  simp only [List.getElem?_cons_zero, List.getElem?_cons_succ] at c0 c1 c2 c3 c4 c5 c6 c7 c8 c9 c10 c11
  go_wp2_with fail
  refine (new_good c w2 Hg.out.1).mono ?_; rintro e w3 ⟨bm, rfl, hm3, hk3⟩
  have hK3 : Kept w w3 := hK2.trans' hk3
  have hb3 := hk3.blk hb2
  clear c0 c1 c2 c3 c4 c5 c6 c7 c8 c9 c10 c11 hb2 hk3 hK2 
  go_wp2_with fail
  refine (first_any w3 hm3 Hg.out.1 (Nat.le_refl _)).mono ?_; rintro e w4 ⟨v4, rfl, hr4, hk4⟩
  obtain ⟨fl0, fl1, fall⟩ := first_facts Hg.out.1
  go_wp2_with fail
  refine (new_any w4 hr4 fl0 fl1 fall).mono ?_; rintro e w5 ⟨bs, bl, rfl, hs5, hbs5, hbl5, hk5⟩
  have hm5 := (hm3.kept hk4 (Nat.le_refl _)).kept hk5 hk4.size
  have hb5 := hk5.blk (hk4.blk hb3)
  have hK5 : Kept w w5 := (hK3.trans' hk4).trans' hk5
  have hB5 : w3.heap.size ≤ w5.heap.size := Nat.le_trans hk4.size hk5.size
  have hBs5 : w3.heap.size ≤ bs := Nat.le_trans hk4.size hbs5
  have hBl5 : w3.heap.size ≤ bl := Nat.le_trans hk4.size hbl5
  have hW3 : w.heap.size < w3.heap.size := hb3.lt
  clear hm3 hb3 hr4 hk4 hk5 hK3 hbs5 hbl5 fl0 fl1 fall 
  have hnb := nN_bound Hg.out.1
  obtain ⟨nn, hnn⟩ : ∃ nn : Nat, nN c = nn := ⟨_, rfl⟩
  rw [hnn] at hnb
  have HNN : Hid (nN c = nn) := hnn
  clear hnn
  have hnz : ¬ (nn : Int) = 0 := by omega
  obtain ⟨k, hk⟩ : ∃ k : Int, k = v % nn := ⟨_, rfl⟩
  have hk0 : 0 ≤ k := by rw [hk]; exact Int.emod_nonneg _ hnz
  have hk1 : k < nn := by rw [hk]; exact Int.emod_lt_of_pos _ (by omega)
  have hkt : v.tmod nn = k := by rw [hk]; exact Int.tmod_eq_emod_of_nonneg hv.1
  have y1 : IntKind.i64.wrap v = v := wrap_small hv.1 (by omega)
  have y2 : IntKind.i64.wrap k = k := wrap_small hk0 (by omega)
  have y3 : IntKind.i64.wrap (k + 1) = k + 1 := wrap_small (by omega) (by omega)
  have y4 : IntKind.i64.wrap ((nn : Int) + 1) = nn + 1 := wrap_small (by omega) (by omega)
  clear hk
  go_wp2_with fail
  refine (mNodes_any w5 hm5).mono ?_; rintro e wx ⟨rfl, rfl⟩
  rw [HNN.out]
  go_wp2_with fail
  refine (mMark_any (k + 1) w5 hm5 Hg.out.1).mono ?_; rintro e wx ⟨rfl, rfl⟩
  go_wp2_with fail
  refine (put_any (pNode c (k + 1) 2) cycle w5 hs5 hcy).mono ?_; rintro e w6 ⟨rfl, hs6, hc6⟩
  have hb6 : Below w3.heap.size w5 w6 := hc6.toBelow hB5 (fun q hq e => by rcases e with e | e <;> omega)
  have hm6 := hm5.below hb6 (Nat.le_refl _)
  have hK6 : Kept w w6 := hK5.trans (hb6.mono (Nat.le_of_lt hW3))
  have z6 : w5.heap.size ≤ w6.heap.size := hc6.size
  have hcnt : cnt 0 = 1 := by unfold cnt wrap64; omega
  rw [hcnt] at hs6
  have hmk : mget (mput (firstL c) (pNode c (k + 1) 2) cycle) (pNode c (k + 1) 2) = cycle := by
    have hnp := node_place (c := c) (v := k + 1) (j := 2) (by omega) (by have := HNN.out; omega) (by omega) (by have := room_bound c (k + 1); omega)
    have hl : (firstL c).length = (allI c).toNat := freeTo_len c _
    have hA := allI_bound Hg.out.1
    have hnd := node0_bound Hg.out.1
    exact mget_put (by omega)
  generalize hmem : mput (firstL c) (pNode c (k + 1) 2) cycle = mem at *
  clear hmem hs5 hm5 hK5 hc6 hb6 hb5
  go_wp2_with fail
  refine (mAll_any w6 hs6).mono ?_; rintro e w7 ⟨rfl, hb7, hk7⟩
  have hz7 : w6.heap.size < w7.heap.size := hb7.lt
  have hl6 := hs6.lt
  have hs7 := hs6.kept hk7
  have hm7 := hm6.kept hk7 (by omega)
  have hK7 : Kept w w7 := hK6.trans' hk7
  have z7 : w6.heap.size ≤ w7.heap.size := hk7.size
  clear hk7 hs6 hm6 hK6
  go_wp2_with fail
  refine (mCount_any w7 hs7).mono ?_; rintro e wx ⟨rfl, rfl⟩
  go_wp2_with fail
  refine (bufNew_any (bm := bm) w7 hs7.lt.1 hs7.lt.2).mono ?_; rintro e w8 ⟨bb, rfl, hbf8, hbb, hk8⟩
  have hs8 := hs7.kept hk8
  have hm8 := hm7.kept hk8 (by omega)
  have hK8 : Kept w w8 := hK7.trans' hk8
  have hb8 := hk8.blk hb7
  have z8 : w7.heap.size ≤ w8.heap.size := hk8.size
  clear hk8 hs7 hm7 hK7 hb7
  go_wp2_with fail
  refine (blog_any (k + 1) cycle w8 Hg.out.1 hbf8 hm8 (by omega) hcy hs8.lt.1 hs8.lt.2).mono ?_; rintro e w9 ⟨x, rfl, hbu9, hx9, hk9⟩
  have hs9 := hs8.kept hk9
  have hm9 := hm8.kept hk9 (by omega)
  have hK9 : Kept w w9 := hK8.trans' hk9
  have hb9 := hk9.blk hb8
  have z9 : w8.heap.size ≤ w9.heap.size := hk9.size
  have hO9 := Grow.ge (w' := w9) (NewB.ge (w := w7) (w' := w8) (B := w3.heap.size) (by omega)) (show w3.heap.size ≤ w8.heap.size by omega)
  have hna : ∀ q, Grow (NewB w7 w8) w8 w9 q → w7.heap.size ≤ q := Grow.ge (NewB.ge (Nat.le_refl _)) (by omega)
  generalize Grow (NewB w7 w8) w8 w9 = O9 at *
  have D := bstep_any w9 Hg.out.1 hbu9 (by simp) hs9 hm9 (by omega) hO9 hBs5 hBl5
  have hlog : logBS c (k + 1) cycle = ⟨.claims, k + 1, newCM (k + 1) cycle, putAll [], Ev.zero⟩ := by
    unfold logBS
    rw [if_pos ⟨by omega, by have := HNN.out; omega⟩]
  have hstep : bsStep c mem [] (logBS c (k + 1) cycle) = (mem, [], ⟨.done, k + 1, ⟨.done, k + 1, cycle, cycle, false⟩, putAll [], Ev.zero⟩) := by
    rw [hlog]
    simp [bsStep, cmStep, hmk, CPc.fin]
  rw [hstep] at D
  rw [show (logBS c (k + 1) cycle).pc = .claims from by rw [hlog]] at D
  clear hlog hstep hbu9 hs8 hm8 hK8 hb8 hbf8 hk9 hmk
  go_wp2_with fail
  refine D.mono ?_; rintro e w10 ⟨rfl, hbu10, hs10, hc10⟩
  have hl9 := hs9.lt
  have hnr : ¬ OwnB O9 bs bl w6.heap.size := by
    rintro (e | e | e)
    · have := hna _ e; omega
    · omega
    · omega
  have hb10 := hc10.blk hb9 hnr
  have hbw10 := hc10.ownBelow (B := w3.heap.size) (by omega) hO9 hBs5 hBl5
  have hm10 := hm9.below hbw10 (Nat.le_refl _)
  have hK10 : Kept w w10 := hK9.trans (hbw10.mono (Nat.le_of_lt hW3))
  have z10 : w9.heap.size ≤ w10.heap.size := hc10.size
  have hcnt2 : cntIf BPc.claims.fin 1 = 2 := by show cnt 1 = 2; unfold cnt wrap64; omega
  rw [hcnt2] at hs10
  have hO10 := Grow.ge (w' := w10) hO9 (show w3.heap.size ≤ w9.heap.size by omega)
  generalize Grow O9 w9 w10 = O10 at *
  clear hc10 hbw10 hm9 hK9 hs9 hnr hb9 hO9 hna
  simp only [BPc.fin]
  go_wp2_with fail
  refine (mCount_any w10 hs10).mono ?_; rintro e wx ⟨rfl, rfl⟩
  go_wp2_with fail
  refine (blog_any (min n 0) cycle w10 Hg.out.1 hbu10.buf hm10 (by omega) hcy hs10.lt.1 hs10.lt.2).mono ?_; rintro e w11 ⟨y, rfl, hbu11, hy11, hk11⟩
  have hs11 := hs10.kept hk11
  have hm11 := hm10.kept hk11 (by omega)
  have hK11 : Kept w w11 := hK10.trans' hk11
  have hb11 := hk11.blk hb10
  have hx11 := hbu10.kept hk11
  have hyl : y < w11.heap.size := (hbu11.own y hbu11.xin).1
  have z11 : w10.heap.size ≤ w11.heap.size := hk11.size
  clear hk11 hb10 hm10 hK10 hs10
  go_wp2_with fail
  refine (mNodes_any w11 hm11).mono ?_; rintro e wx ⟨rfl, rfl⟩
  rw [HNN.out]
  go_wp2_with fail
  refine (blog_any (max n ((nn : Int) + 1)) cycle w11 Hg.out.1 hx11.buf hm11 (by omega) hcy hs11.lt.1 hs11.lt.2).mono ?_; rintro e w12 ⟨z, rfl, hbu12, hz12, hk12⟩
  have hs12 := hs11.kept hk12
  have hK12 : Kept w w12 := hK11.trans' hk12
  have hb12 := hk12.blk hb11
  have hx12 := hx11.kept hk12
  have hy12 := hbu11.kept hk12
  have z12 : w11.heap.size ≤ w12.heap.size := hk12.size
  clear hk12 hb11 hm11 hK11 hs11 hbu11
  have py : (logBS c (min n 0) cycle).pc = .done := by unfold logBS; rw [if_neg (by omega)]
  have pz : (logBS c (max n ((nn : Int) + 1)) cycle).pc = .done := by unfold logBS; rw [if_neg (by have := HNN.out; omega)]
  have D1 := bstep_done w12 (.pointer (some ⟨bs, 0, none⟩)) hy12 py
  clear hy12 py
  go_wp2_with fail
  refine D1.mono ?_; rintro e w13 ⟨rfl, _, hc13⟩
  have hOx : ∀ q, O10 q → q < w10.heap.size := fun q hq => (hbu10.own q hq).1
  have hx13 := hx12.chg hc13 (fun q hq => by have := hOx q hq; omega)
  have hz13 := hbu12.chg hc13 (fun q hq => by
    rcases hq with hq | hq
    · have := hOx q hq; omega
    · omega)
  have hl10 := hs12.lt
  have hs13 := hs12.chg hc13 (by omega) (by omega)
  have hb13 := hc13.blk hb12 (by omega)
  have hK13 : Kept w w13 := hK12.trans (hc13.toBelow (by omega) (fun q hq e => by omega))
  have z13 : w12.heap.size ≤ w13.heap.size := hc13.size
  have D2 := bstep_done w13 (.pointer (some ⟨bs, 0, none⟩)) hz13 pz
  clear hz13 pz hx12 hbu12 hs12 hb12 hK12 hc13
  go_wp2_with fail
  refine D2.mono ?_; rintro e w14 ⟨rfl, _, hc14⟩
  have hx14 := hx13.chg hc14 (fun q hq => by have := hOx q hq; omega)
  have hs14 := hs13.chg hc14 (by omega) (by omega)
  have hb14 := hc14.blk hb13 (by omega)
  have hK14 : Kept w w14 := hK13.trans (hc14.toBelow (by omega) (fun q hq e => by omega))
  have z14 : w13.heap.size ≤ w14.heap.size := hc14.size
  clear hx13 hs13 hb13 hK13 hc14
  go_wp2_with fail
  refine (mCount_any w14 hs14).mono ?_; rintro e wx ⟨rfl, rfl⟩
  go_wp2_with fail
  refine (mAll_any w14 hs14).mono ?_; rintro e w15 ⟨rfl, hb15, hk15⟩
  have hra : Row w15 (.slice (some ⟨w14.heap.size, 0, none⟩) mem.length mem.length) (mem.map (Value.int .u64)) := by
    have := hb15.row (by have := hs14.le; simp; unfold maxLen; omega)
    simpa using this
  have hrb : Row w15 (.slice (some ⟨w6.heap.size, 0, none⟩) mem.length mem.length) (mem.map (Value.int .u64)) := by
    have := (hk15.blk hb14).row (by have := hs14.le; simp; unfold maxLen; omega)
    simpa using this
  have hx15 := hx14.kept hk15
  have hK15 : Kept w w15 := hK14.trans' hk15
  have SM := same_any w15 hra hrb
  rw [show decide (mem = mem) = true from decide_eq_true rfl] at SM
  clear hra hrb hx14 hK14 hb15 hb14 hk15 hs14
  go_wp2_with fail
  refine SM.mono ?_; rintro e w16 ⟨rfl, hk16⟩
  have hx16 := hx15.kept hk16
  have hK16 : Kept w w16 := hK15.trans' hk16
  clear hx15 hK15 hk16
  go_wp2_with fail
  refine (btasks_any w16 hx16.buf (by simp)).mono ?_; rintro e w17 ⟨v17, rfl, hr17, _, hk17⟩
  obtain ⟨a17, c17, rfl, _⟩ := hr17.ex
  have hx17 := hx16.kept hk17
  have hK17 : Kept w w17 := hK16.trans' hk17
  simp only [List.map_nil, List.length_nil]
  have he := ev_zero_eql
  clear hx16 hK16 hk17 hr17
  go_wp2_with fail
  refine (bevent_any w17 hx17).mono ?_; rintro e w18 ⟨rfl, hk18⟩
  have hK18 : Kept w w18 := hK17.trans' hk18
  go_wp2_with fail
  go_ret
  exact ⟨rfl, hK18⟩

end Go.Proofs.Ytapdpclgbpgklaa
