/- A task that is done: a machine is made; what a step did: walked. Chapter 14's example: what it comes to, as plain numbers. No program. Chapter 14's example: walked. -/
import Derived.Test.YtapdpclgbpgklaaGreatPkScan6
import Derived.Test.YtapdpclgbpgklaaGreatPkF
namespace Go.Proofs.YtapdpclgbpgklaaGreat
open Go.RowKit

/-- A machine that does a task. -/
def newYS (c : Cfg) (i task cy : Int) : YS := ⟨.head, i, hiI task, loI task, cy, 0, 0, 0, 0, newCM 0 0, newAM c 0 0, Ev.zero⟩

set_option maxRecDepth 8000 in
theorem scanNew_any {bm bs bl : Nat} {c : Cfg} (i task cy : Int) (w : World) (hi : 0 ≤ i ∧ i < c.mks) (ht : U task) (hc : U cy) (hbs : bs < w.heap.size) (hbl : bl < w.heap.size) :
    Calls Tryz.prog 37 #[.pointer (some ⟨bm, 0, none⟩), .int .i64 i, .int .u64 task, .int .u64 cy] w fun r w' => ∃ x, r = .returned (.pointer (some ⟨x, 0, none⟩)) ∧ ScAt w' x bm bs bl c (newYS c i task cy) (NewB w w') ∧ w.heap.size ≤ x ∧ Kept w w' := by
  have hU := ht
  unfold U at hU
  obtain ⟨ht0, ht1⟩ := hU
  have hh := hiI_bound ht0 ht1
  have hl := loI_bound task
  obtain ⟨hh0, hh1⟩ := hh
  obtain ⟨hl0, hl1⟩ := hl
  have yh : IntKind.i64.wrap (hiI task) = hiI task := IntWalk.i64_in _ (by omega)
  have yl : IntKind.i64.wrap (loI task) = loI task := IntWalk.i64_in _ (by omega)
  have hz : (0 ≤ (newYS c i task cy).i ∧ (newYS c i task cy).i < c.mks) ∧ (0 ≤ (newYS c i task cy).at_ ∧ (newYS c i task cy).at_ ≤ 1000) ∧ (0 ≤ (newYS c i task cy).p1 ∧ (newYS c i task cy).p1 ≤ 1000) := ⟨hi, by show (0 : Int) ≤ 0 ∧ (0 : Int) ≤ 1000; omega, by show (0 : Int) ≤ 0 ∧ (0 : Int) ≤ 1000; omega⟩
  have HZ : Hid _ := hz
  have HYS : Hid (newYS c i task cy = ⟨.head, i, hiI task, loI task, cy, 0, 0, 0, 0, newCM 0 0, newAM c 0 0, Ev.zero⟩) := rfl
  have D := split_any task w ht0 ht1
  clear hz
  generalize newYS c i task cy = ys at *
  generalize hiI task = hv at *
  generalize loI task = lv at *
  go_enter Tryz.func37, Tryz.ntmps37
  go_wp2_with fail
  refine D.mono ?_; rintro r w1 ⟨rfl, n1, rfl⟩
  have hk1 : Kept w (w.drewN n1) := below_drewN (Below.refl _ _) n1
  generalize w.drewN n1 = w1 at *
  go_wp2_with fail
  go_ret
  have hb := Blk.new w1 147 (scL bm ⟨i, hv, lv, cy, 0, 0, 0, 0, Ev.zero⟩ (.pointer none) (.pointer none) ((YPc.head).val w1.heap.size))
  have hk : Kept w1 (w1.alloc (.cells (scL bm ⟨i, hv, lv, cy, 0, 0, 0, 0, Ev.zero⟩ (.pointer none) (.pointer none) ((YPc.head).val w1.heap.size)).toArray 147)) := (Below.refl _ _).alloc (Nat.le_refl _) _
  have z1 := hk1.size
  refine ⟨w1.heap.size, rfl, ?_, z1, hk1.trans' hk⟩
  rw [HYS.out]
  have hz := HZ.out
  rw [HYS.out] at hz
  exact ScAt.plain hc hz (fun e => by cases e) (fun k hk => ⟨hk.2, by have := hk.1; omega, by have := hk.1; omega⟩) ⟨z1, hb.lt⟩ hb (fun e => by cases e) (fun e => by cases e)

set_option maxRecDepth 8000 in
theorem scEvent_any {x bm bs bl : Nat} {c : Cfg} {s : YS} {O : Nat → Prop} (w : World) (h : ScAt w x bm bs bl c s O) :
    Calls Tryz.prog 40 #[.pointer (some ⟨x, 0, none⟩)] w fun r w' => r = .returned (.agg #[.int .i64 s.ev.k, .int .i64 s.ev.who, .int .i64 s.ev.a, .int .i64 s.ev.b, .int .i64 s.ev.c]) ∧ Kept w w' := by
  obtain ⟨cp, ap, hx, _, _⟩ := h.ex
  have hne := hx.lt
  have k4 := hx.cell 11
  have k5 := hx.cell 12
  have k6 := hx.cell 13
  have k7 := hx.cell 14
  have k8 := hx.cell 15
  simp only [YS.sv, List.getElem?_cons_zero, List.getElem?_cons_succ] at k4 k5 k6 k7 k8
  have hx1 := hx.alloc (.cells #[.int .i64 0, .int .i64 0, .int .i64 0, .int .i64 0, .int .i64 0] 61)
  have j4 := hx1.cell 11
  have j5 := hx1.cell 12
  have j6 := hx1.cell 13
  have j7 := hx1.cell 14
  have j8 := hx1.cell 15
  simp only [YS.sv, List.getElem?_cons_zero, List.getElem?_cons_succ] at j4 j5 j6 j7 j8
  have hk : Kept w (w.alloc (.cells #[.int .i64 0, .int .i64 0, .int .i64 0, .int .i64 0, .int .i64 0] 61)) := (Below.refl _ _).alloc (Nat.le_refl _) _
  go_enter Tryz.func40, Tryz.ntmps40
  go_wp2_with fail
  have hb2 := Blk.new w 61 [.int .i64 s.ev.k, .int .i64 s.ev.who, .int .i64 s.ev.a, .int .i64 s.ev.b, .int .i64 s.ev.c]
  have hk2 : Kept w (w.alloc (.cells (([.int .i64 s.ev.k, .int .i64 s.ev.who, .int .i64 s.ev.a, .int .i64 s.ev.b, .int .i64 s.ev.c] : List Value).toArray) 61)) := (Below.refl _ _).alloc (Nat.le_refl _) _
  have c0 := hb2.cell 0
  have c1 := hb2.cell 1
  have c2 := hb2.cell 2
  have c3 := hb2.cell 3
  have c4 := hb2.cell 4
  simp only [List.getElem?_cons_zero, List.getElem?_cons_succ] at c0 c1 c2 c3 c4
  exact bodyPost_ret (v := .agg #[.int .i64 s.ev.k, .int .i64 s.ev.who, .int .i64 s.ev.a, .int .i64 s.ev.b, .int .i64 s.ev.c]) (by simp [results, Tryz.results40, go_sem, c0, c1, c2, c3, c4]) rfl ⟨rfl, hk2⟩

end Go.Proofs.YtapdpclgbpgklaaGreat

namespace Go.Proofs.YtapdpclgbpgklaaGreat
open Go.RowKit

/-- So many steps. -/
def scRun (c : Cfg) : Nat → List Int × YS → List Int × YS
  | 0, x => x
  | k + 1, x => scStep c (scRun c k x).1 (scRun c k x).2

def cF : Cfg := ⟨2, 1, 0, 0, 0, 1, 1, 4, 1, 1, 1, 1⟩

theorem cF_good : Good cF := by decide

def f0F : List Int × YS := (mput (mput (mput (firstL cF) (pNode cF 3 0) 2) (pSlot cF 3 0) 1) (pSlot cF 3 1) 2, newYS cF 0 12884901888 1)

theorem fw0 : (∀ k, k < 14 → (scRun cF (k + 1) f0F).2.pc.fin = false) ∧ (scRun cF 15 f0F).2.pc.fin = true := of_decide_eq_true (by kernel_rfl)
theorem fw1 : (scRun cF 15 f0F).2.ev = ⟨4, 0, 3, 0, 0⟩ := of_decide_eq_true (by kernel_rfl)
theorem fw2 : mget (scRun cF 15 f0F).1 (pNode cF 1 2) = 1 ∧ mget (scRun cF 15 f0F).1 (pNode cF 2 2) = 0 ∧ mget (scRun cF 15 f0F).1 1 = 1 ∧ mget (scRun cF 15 f0F).1 (pEnd cF 0 1) = 2 := of_decide_eq_true (by kernel_rfl)

theorem scRun_ev (c : Cfg) (k : Nat) (x : List Int × YS) (h : EvOk x.2.ev) : EvOk (scRun c k x).2.ev := by
  cases k with
  | zero => exact h
  | succ k => exact scStep_ev _ _ _

theorem scRun_i (c : Cfg) (k : Nat) (x : List Int × YS) : (scRun c (k + 1) x) = scStep c (scRun c k x).1 (scRun c k x).2 := rfl

end Go.Proofs.YtapdpclgbpgklaaGreat

namespace Go.Proofs.YtapdpclgbpgklaaGreat
open Go.RowKit

theorem ScAt.kept {w w' : World} {x bm bs bl : Nat} {c : Cfg} {s : YS} {O : Nat → Prop} (h : ScAt w x bm bs bl c s O) (k : Kept w w') : ScAt w' x bm bs bl c s O := h.chg (Chg.ofBelow (S := fun _ => False) k) (fun _ _ => id)

theorem growGe {O : Nat → Prop} {w w' : World} {B : Nat} (h : ∀ k, O k → B ≤ k) (hB : B ≤ w.heap.size) : ∀ k, Grow O w w' k → B ≤ k := by
  rintro k (e | e)
  · exact h k e
  · omega

theorem ev_end (W : World) : (binOp .eql 61 (.agg #[.int .i64 4, .int .i64 0, .int .i64 3, .int .i64 0, .int .i64 0]) (.agg #[.int .i64 4, .int .i64 0, .int .i64 3, .int .i64 0, .int .i64 0])).run Tryz.prog W = .ok (.bool true) W := by kernel_rfl

set_option maxRecDepth 8000 in
set_option maxHeartbeats 3200000 in
theorem awake14_any (w : World) :
    Calls Tryz.prog 31 #[] w fun e w' => e = .returned (.bool true) ∧ Kept w w' := by
  obtain ⟨hl0, hl1, hall⟩ := first_facts cF_good
  go_enter Tryz.func31, Tryz.ntmps31
  go_wp2_with fail
  refine (new_good cF w cF_good).mono ?_; rintro e w1 ⟨bm, rfl, hm1, hk1⟩
  go_wp2_with fail
  refine (first_any w1 hm1 cF_good (Nat.le_refl _)).mono ?_; rintro e w2 ⟨v, rfl, hr2, hk2⟩
  go_wp2_with fail
  refine (new_any w2 hr2 hl0 hl1 hall).mono ?_; rintro e w3 ⟨bs, bl, rfl, hs3, hb3, hl3, hk3⟩
  have hm3 := (hm1.kept hk2 (Nat.le_refl _)).kept hk3 hk2.size
  have hK3 : Kept w w3 := (hk1.trans' hk2).trans' hk3
  have hB : w1.heap.size ≤ w3.heap.size := Nat.le_trans hk2.size hk3.size
  have hBs : w1.heap.size ≤ bs := Nat.le_trans hk2.size hb3
  have hBl : w1.heap.size ≤ bl := Nat.le_trans hk2.size hl3
  have hW : w.heap.size ≤ w1.heap.size := hk1.size
  clear hr2 hk2 hk3 hm1 hb3 hl3 hk1
  go_wp2_with fail
  refine (mHeader_any 3 w3 hm3 cF_good).mono ?_; rintro e wx ⟨rfl, rfl⟩
  go_wp2_with fail
  refine (put_any (pNode cF 3 0) 2 w3 hs3 (by unfold U; omega)).mono ?_; rintro e w4 ⟨rfl, hs4, hc4⟩
  have hb4 : Below w1.heap.size w3 w4 := hc4.toBelow hB (fun q hq e => by rcases e with e | e <;> omega)
  have hm4 := hm3.below hb4 (Nat.le_refl _)
  have hK4 : Kept w w4 := hK3.trans (hb4.mono hW)
  have z4 : w3.heap.size ≤ w4.heap.size := hc4.size
  clear hs3 hm3 hK3 hc4 hb4
  go_wp2_with fail
  refine (mSlot_any 3 0 w4 hm4 cF_good).mono ?_; rintro e wx ⟨rfl, rfl⟩
  go_wp2_with fail
  refine (put_any (pSlot cF 3 0) 1 w4 hs4 (by unfold U; omega)).mono ?_; rintro e w5 ⟨rfl, hs5, hc5⟩
  have hb5 : Below w1.heap.size w4 w5 := hc5.toBelow (by omega) (fun q hq e => by rcases e with e | e <;> omega)
  have hm5 := hm4.below hb5 (Nat.le_refl _)
  have hK5 : Kept w w5 := hK4.trans (hb5.mono hW)
  have z5 : w4.heap.size ≤ w5.heap.size := hc5.size
  clear hs4 hm4 hK4 hc5 hb5
  go_wp2_with fail
  refine (mSlot_any 3 1 w5 hm5 cF_good).mono ?_; rintro e wx ⟨rfl, rfl⟩
  go_wp2_with fail
  refine (put_any (pSlot cF 3 1) 2 w5 hs5 (by unfold U; omega)).mono ?_; rintro e w6 ⟨rfl, hs6, hc6⟩
  have hb6 : Below w1.heap.size w5 w6 := hc6.toBelow (by omega) (fun q hq e => by rcases e with e | e <;> omega)
  have hm6 := hm5.below hb6 (Nat.le_refl _)
  have hK6 : Kept w w6 := hK5.trans (hb6.mono hW)
  have z6 : w5.heap.size ≤ w6.heap.size := hc6.size
  clear hs5 hm5 hK5 hc6 hb6
  have hl6 := hs6.lt
  replace hs6 : StoreAt w6 bs bl (scRun cF 0 f0F).1 _ := hs6
  go_wp2_with fail
  refine (pair_any 3 0 w6 (by omega) (by omega) (by omega) (by omega)).mono ?_; rintro e wx ⟨rfl, rfl⟩
  rw [show (3 : Int) * 4294967296 + 0 = 12884901888 from by omega]
  go_wp2_with fail
  refine (scanNew_any (bm := bm) (bs := bs) (bl := bl) (c := cF) 0 12884901888 1 w6 (by decide) (by unfold U; omega) (by unfold U; omega) hl6.1 hl6.2).mono ?_; rintro e w7 ⟨x, rfl, hx7, hxx, hk7⟩
  have hs7 := hs6.kept hk7
  have hm7 := hm6.kept hk7 (by omega)
  have hK7 : Kept w w7 := hK6.trans' hk7
  have z7 : w6.heap.size ≤ w7.heap.size := hk7.size
  replace hx7 : ScAt w7 x bm bs bl cF (scRun cF 0 f0F).2 (NewB w6 w7) := hx7
  have hO7 : ∀ k, NewB w6 w7 k → w1.heap.size ≤ k := NewB.ge (by omega)
  generalize NewB w6 w7 = O7 at *
  obtain ⟨n7, hn7⟩ : ∃ n7, StoreAt w7 bs bl (scRun cF 0 f0F).1 n7 := ⟨_, hs7⟩
  clear hs6 hm6 hK6 hk7 hs7
  go_wp2_with fail
  go_loopw [5] (fun iv wr => ∃ (k : Nat) (n' : Int), k ≤ 14 ∧ iv = .int .i64 ((k : Int) + 1) ∧ ScAt wr x bm bs bl cF (scRun cF k f0F).2 (Grow O7 w7 wr) ∧ StoreAt wr bs bl (scRun cF k f0F).1 n' ∧ Chg (OwnB O7 bs bl) w7 wr) (fun iv _ => 40 - (intOf iv).toNat)
  case atStart => exact ⟨0, n7, by omega, rfl, by rw [Grow.self]; exact hx7, hn7, Chg.refl _ _⟩
  case round =>
    obtain ⟨k, n', hk, rfl, h', hs', hc⟩ := hrel
    have z1 := hc.size
    have hm' : MapAt _ w1.heap.size bm cF := hm7.below (hc.ownBelow (by omega) hO7 hBs hBl) (Nat.le_refl _)
    have hO' := growGe (w' := wr) hO7 (show w1.heap.size ≤ w7.heap.size by omega)
    have D := scStep_any wr cF_good h' hs' hm' (by omega) hO' hBs hBl (scRun_ev cF k f0F (.inl rfl))
    rw [show scStep cF (scRun cF k f0F).1 (scRun cF k f0F).2 = scRun cF (k + 1) f0F from rfl] at D
    clear hO'
    by_cases hk2 : k < 14
    · rw [fw0.1 k hk2] at D
      go_wp2_with fail
      refine D.mono ?_; rintro e w8 ⟨rfl, h2, hs2, hc2⟩
      go_wp2_with fail
      go_roundw
      case rel =>
        have z2 := hc2.size
        exact ⟨k + 1, _, by omega, by go_num, by rw [← Grow.eq z1 z2]; exact h2, hs2, hc.grow hc2⟩
      case measure => simp [intOf]; omega
    · obtain rfl : k = 14 := by omega
      rw [show (scRun cF (14 + 1) f0F).2.pc.fin = true from fw0.2] at D
      go_wp2_with fail
      refine D.mono ?_; rintro e w8 ⟨rfl, h8, hs8, hc2⟩
      have z2 := hc2.size
      have hc8 := hc.grow hc2
      have hb8 := hc8.ownBelow (B := w1.heap.size) (by omega) hO7 hBs hBl
      have hm8 := hm7.below hb8 (Nat.le_refl _)
      have hK8 : Kept w w8 := hK7.trans (hb8.mono hW)
      have z8 : w7.heap.size ≤ w8.heap.size := hc8.size
      replace hs8 : StoreAt w8 bs bl (scRun cF 15 f0F).1 _ := hs8
      have E := scEvent_any w8 h8
      rw [show (scRun cF (14 + 1) f0F).2.ev = ⟨4, 0, 3, 0, 0⟩ from fw1] at E
      simp only at E
      have he := ev_end
      obtain ⟨fa, fb, fc, fd⟩ := fw2
      have FA : Hid _ := fa
      have FB : Hid _ := fb
      have FC : Hid _ := fc
      have FD : Hid _ := fd
      clear fa fb fc fd D hc hc2 h' hs' hm' h8 hb8 hc8 hm7 hK7 hx7 hn7
      generalize (scRun cF 15 f0F).1 = mem at *
      go_wp2_with fail
      refine E.mono ?_; rintro e w9 ⟨rfl, hk9⟩
      have hs9 := hs8.kept hk9
      have hm9 := hm8.kept hk9 (by omega)
      have hK9 : Kept w w9 := hK8.trans' hk9
      have z9 : w8.heap.size ≤ w9.heap.size := hk9.size
      clear hs8 hm8 hK8 hk9 E
      go_wp2_with fail
      refine (mMark_any 1 w9 hm9 cF_good).mono ?_; rintro e wx ⟨rfl, rfl⟩
      go_wp2_with fail
      refine (load_any (pNode cF 1 2) w9 hs9).mono ?_; rintro e w10 ⟨rfl, hs10, hc10⟩
      rw [FA.out]
      have hb10 : Below w1.heap.size w9 w10 := hc10.toBelow (by omega) (fun q hq e => by omega)
      have hm10 := hm9.below hb10 (Nat.le_refl _)
      have hK10 : Kept w w10 := hK9.trans (hb10.mono hW)
      have z10 : w9.heap.size ≤ w10.heap.size := hc10.size
      clear hs9 hm9 hK9 hc10 hb10
      go_wp2_with fail
      refine (mMark_any 2 w10 hm10 cF_good).mono ?_; rintro e wx ⟨rfl, rfl⟩
      go_wp2_with fail
      refine (load_any (pNode cF 2 2) w10 hs10).mono ?_; rintro e w11 ⟨rfl, hs11, hc11⟩
      rw [FB.out]
      have hb11 : Below w1.heap.size w10 w11 := hc11.toBelow (by omega) (fun q hq e => by omega)
      have hm11 := hm10.below hb11 (Nat.le_refl _)
      have hK11 : Kept w w11 := hK10.trans (hb11.mono hW)
      have z11 : w10.heap.size ≤ w11.heap.size := hc11.size
      clear hs10 hm10 hK10 hc11 hb11
      go_wp2_with fail
      refine (mWork_any bm w11).mono ?_; rintro e wx ⟨rfl, rfl⟩
      go_wp2_with fail
      refine (load_any 1 w11 hs11).mono ?_; rintro e w12 ⟨rfl, hs12, hc12⟩
      rw [FC.out]
      have hb12 : Below w1.heap.size w11 w12 := hc12.toBelow (by omega) (fun q hq e => by omega)
      have hm12 := hm11.below hb12 (Nat.le_refl _)
      have hK12 : Kept w w12 := hK11.trans (hb12.mono hW)
      have z12 : w11.heap.size ≤ w12.heap.size := hc12.size
      clear hs11 hm11 hK11 hc12 hb12
      go_wp2_with fail
      refine (mBottom_k 0 w12 hm12 cF_good).mono ?_; rintro e w13 ⟨rfl, hk13⟩
      have hs13 := hs12.kept hk13
      have hK13 : Kept w w13 := hK12.trans' hk13
      have z13 : w12.heap.size ≤ w13.heap.size := hk13.size
      clear hs12 hm12 hK12 hk13
      go_wp2_with fail
      refine (load_any (pEnd cF 0 1) w13 hs13).mono ?_; rintro e w14 ⟨rfl, hs14, hc14⟩
      rw [FD.out]
      have hb14 : Below w1.heap.size w13 w14 := hc14.toBelow (by omega) (fun q hq e => by omega)
      have hK14 : Kept w w14 := hK13.trans (hb14.mono hW)
      go_wp2_with fail
      go_ret
      exact ⟨rfl, hK14⟩

end Go.Proofs.YtapdpclgbpgklaaGreat
