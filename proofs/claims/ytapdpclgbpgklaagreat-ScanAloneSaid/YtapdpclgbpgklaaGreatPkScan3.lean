/- A task that is done: a slot is looked at, a node is marked: walked. -/
import Derived.Test.YtapdpclgbpgklaaGreatPkJ
namespace Go.Proofs.YtapdpclgbpgklaaGreat
open Go.RowKit

set_option maxRecDepth 8000 in
set_option maxHeartbeats 1600000 in
theorem scSlot_does {x bm bs bl B : Nat} {c : Cfg} {s : YS} {O : Nat → Prop} {mem : List Int} {n : Int} (w : World) (hg : Good c) (h : ScAt w x bm bs bl c s O) (hs : StoreAt w bs bl mem n) (hm : MapAt w B bm c) (hB : B ≤ w.heap.size) (hO : ∀ k, O k → B ≤ k) (hBs : B ≤ bs) (hBl : B ≤ bl) (hp : s.pc = .slot) (hev : s.ev = Ev.zero) :
    Calls Tryz.prog 156 #[.pointer (some ⟨x, 0, none⟩), .pointer (some ⟨bs, 0, none⟩)] w fun r w' => r = .returned (.tuple #[]) ∧ ScAt w' x bm bs bl c (scStep c mem s).2 (Grow O w w') ∧ StoreAt w' bs bl (scStep c mem s).1 (cnt n) ∧ Chg (OwnB O bs bl) w w' := by
  obtain ⟨pc, i, v, fr, cy, p0, p1, at_, w0, cm, am, ev⟩ := s
  simp only at hp hev
  subst hp hev
  obtain ⟨ucy, num, slo, own, xin, cp, ap, hx, h1, h2⟩ := h
  simp only [YS.sv] at hx ucy num slo h1 h2
  simp only [scStep]
  have lx := own x xin
  obtain ⟨ls, ll⟩ := hs.lt
  clear h1 h2
  have hlt := slo (by trivial)
  clear slo
  obtain ⟨num1, ⟨na0, na1⟩, np0, np1⟩ := num
  have hU := mget_all hs.all (pSlot c v at_)
  generalize ht : mget mem (pSlot c v at_) = kk at *
  have HT : Hid (mget mem (pSlot c v at_) = kk) := ht
  clear ht
  unfold U at hU
  obtain ⟨hU0, hU1⟩ := hU
  have ya : IntKind.i64.wrap (at_ + 1) = at_ + 1 := wrap_small (by omega) (by omega)
  have hnn := nN_bound hg
  obtain ⟨nn, hnn'⟩ : ∃ nn : Nat, nN c = nn := ⟨_, rfl⟩
  rw [hnn'] at hnn ⊢
  have HNN : Hid (nN c = nn) := hnn'
  clear hnn'
  have yn : IntKind.u64.wrap (nn : Int) = nn := by rw [IntKind.wrap_u64]; omega
  have g0 := hx.cell 0
  have g2 := hx.cell 2
  have g7 := hx.cell 7
  simp only [List.getElem?_cons_zero, List.getElem?_cons_succ] at g0 g2 g7
  by_cases hk1 : 1 ≤ kk
  · have hd1 : decide (1 ≤ kk) = true := decide_eq_true hk1
    by_cases hk2 : kk ≤ (nn : Int)
    · have hd2 : decide (kk ≤ (nn : Int)) = true := decide_eq_true hk2
      have yk : IntKind.i64.wrap kk = kk := wrap_small (by omega) (by omega)
      rw [if_pos ⟨hk1, hk2⟩]
      go_enter Tryz.func156, Tryz.ntmps156
      go_wp2_with fail
      go_region_held3 (fun w' => w'.cell? ⟨x, 0, none⟩ = some (.pointer (some ⟨bm, 0, none⟩)) ∧ w'.cell? ⟨x, 2, none⟩ = some (.int .i64 v) ∧ w'.cell? ⟨x, 7, none⟩ = some (.int .i64 at_))
        (first | exact ⟨g0, g2, g7⟩ | exact ⟨k0, k2, k7⟩)
        (first
         | (go_at_call 41; refine (load_any (pSlot c v at_) _ hs.drew).mono ?_; rintro r w2 ⟨rfl, hs2, hc2⟩
            rw [HT.out]
            have hx2 := hc2.blk hx.drew (show ¬ x = bs from lx.2.1)
            have k0 := hx2.cell 0
            have k2 := hx2.cell 2
            have k7 := hx2.cell 7
            simp only [List.getElem?_cons_zero, List.getElem?_cons_succ] at k0 k2 k7)
         | (go_at_call 42; refine (mSlot_any v at_ _ hm.drew hg).mono ?_; rintro r w2 ⟨rfl, rfl⟩))
      have hcw2 : Chg (OwnB O bs bl) w w2 := ((Chg.refl _ w).drew).trans (hc2.mono (fun _ _ e => .inr (.inl e)))
      clear g0 g2 g7 k0
      have k11 := hx2.cell 11
      have k12 := hx2.cell 12
      have k13 := hx2.cell 13
      have k14 := hx2.cell 14
      have k15 := hx2.cell 15
      have f11 := hx2.free 11
      have f12 := hx2.free 12
      have f13 := hx2.free 13
      have f14 := hx2.free 14
      have f15 := hx2.free 15
      simp only [List.getElem?_cons_zero, List.getElem?_cons_succ] at k11 k12 k13 k14 k15
      go_wp2_with fail
      go_region
      have hx3 : Blk ((((((w2.setCell ⟨x, 11, none⟩ (.int .i64 3)).setCell ⟨x, 12, none⟩ (.int .i64 0)).setCell ⟨x, 13, none⟩ (.int .i64 v)).setCell ⟨x, 14, none⟩ (.int .i64 at_)).setCell ⟨x, 15, none⟩ (.int .i64 0)).drew) x 147 (scL bm ⟨i, v, fr, cy, p0, p1, at_, w0, ⟨3, 0, v, at_, 0⟩⟩ cp ap ((YPc.slot).val x)) := (((((hx2.set' 11 _ rfl).set' 12 _ rfl).set' 13 _ rfl).set' 14 _ rfl).set' 15 _ rfl).drew
      have hc3 : Chg (fun k => k = x) w2 ((((((w2.setCell ⟨x, 11, none⟩ (.int .i64 3)).setCell ⟨x, 12, none⟩ (.int .i64 0)).setCell ⟨x, 13, none⟩ (.int .i64 v)).setCell ⟨x, 14, none⟩ (.int .i64 at_)).setCell ⟨x, 15, none⟩ (.int .i64 0)).drew) := ((((((Chg.refl (fun k => k = x) w2).setCell _ _ (fun _ => rfl)).setCell _ _ (fun _ => rfl)).setCell _ _ (fun _ => rfl)).setCell _ _ (fun _ => rfl)).setCell _ _ (fun _ => rfl)).drew
      generalize (((((w2.setCell ⟨x, 11, none⟩ (.int .i64 3)).setCell ⟨x, 12, none⟩ (.int .i64 0)).setCell ⟨x, 13, none⟩ (.int .i64 v)).setCell ⟨x, 14, none⟩ (.int .i64 at_)).setCell ⟨x, 15, none⟩ (.int .i64 0)).drew = w3 at *
      clear k2 k7 k11 k12 k13 k14 k15 f11 f12 f13 f14 f15
      have k7 := hx3.cell 7
      have f7 := hx3.free 7
      simp only [List.getElem?_cons_zero, List.getElem?_cons_succ] at k7
      go_wp2_with fail
      have hx4 : Blk (w3.setCell ⟨x, 7, none⟩ (.int .i64 (at_ + 1))) x 147 (scL bm ⟨i, v, fr, cy, p0, p1, at_ + 1, w0, ⟨3, 0, v, at_, 0⟩⟩ cp ap ((YPc.slot).val x)) := hx3.set' 7 _ rfl
      have hc4 : Chg (fun k => k = x) w2 (w3.setCell ⟨x, 7, none⟩ (.int .i64 (at_ + 1))) := hc3.setCell _ _ (fun _ => rfl)
      generalize w3.setCell ⟨x, 7, none⟩ (.int .i64 (at_ + 1)) = w4 at *
      clear k7 f7 hx3 hc3
      refine (scSlots_any w4 hx4).mono ?_; rintro r w5 ⟨rfl, n3, rfl⟩
      obtain ⟨fq, hv⟩ := slots_val (at_ + 1) p1 x
      have HV : Hid _ := hv
      rw [hv]
      clear hv
      have hx5 := hx4.chgN n3
      have hc5 : Chg (fun k => k = x) w4 (w4.drewN n3) := (Chg.refl _ w4).drewN n3
      generalize w4.drewN n3 = w5 at *
      have k16 := hx5.cell 16
      have f16 := hx5.free 16
      simp only [List.getElem?_cons_zero, List.getElem?_cons_succ] at k16
      have j0 := hx5.cell 0
      simp only [List.getElem?_cons_zero] at j0
      have hcc5 := hc4.trans hc5
      clear hc4 hc5
      go_wp2_with fail
      have hx6 : Blk (w5.setCell ⟨x, 16, none⟩ (.func (.func fq) #[.pointer (some ⟨x, 0, none⟩)] #[])) x 147 (scL bm ⟨i, v, fr, cy, p0, p1, at_ + 1, w0, ⟨3, 0, v, at_, 0⟩⟩ cp ap ((slotsPc (at_ + 1) p1).val x)) := by rw [HV.out]; exact hx5.set' 16 _ rfl
      have hc6 : Chg (fun k => k = x) w2 (w5.setCell ⟨x, 16, none⟩ (.func (.func fq) #[.pointer (some ⟨x, 0, none⟩)] #[])) := hcc5.setCell _ _ (fun _ => rfl)
      generalize w5.setCell ⟨x, 16, none⟩ (.func (.func fq) #[.pointer (some ⟨x, 0, none⟩)] #[]) = w6 at *
      clear k16 f16 hx5 hcc5 HV j0
      have hcw6 : Chg (OwnB O bs bl) w w6 := hcw2.trans (hc6.mono (fun k _ e => .inl (e ▸ xin)))
      have hs6 := hs2.chg hc6 (Ne.symm lx.2.1) (Ne.symm lx.2.2)
      have hm6 := hm.below (hcw6.ownBelow hB hO hBs hBl) (Nat.le_refl _)
      have z6 := hcw6.size
      clear hc2 hc6 hcw2 hs2 hx2
      have m0 := hx6.cell 0
      simp only [List.getElem?_cons_zero] at m0
      refine (mNodes_any w6 hm6).mono ?_; rintro r w7 ⟨rfl, rfl⟩
      rw [HNN.out]
      have k8 := hx6.cell 8
      have f8 := hx6.free 8
      simp only [List.getElem?_cons_zero, List.getElem?_cons_succ] at k8
      go_wp2_with fail
      have hx7 : Blk (w6.setCell ⟨x, 8, none⟩ (.int .i64 kk)) x 147 (scL bm ⟨i, v, fr, cy, p0, p1, at_ + 1, kk, ⟨3, 0, v, at_, 0⟩⟩ cp ap ((slotsPc (at_ + 1) p1).val x)) := hx6.set' 8 _ rfl
      have hc7 : Chg (fun k => k = x) w6 (w6.setCell ⟨x, 8, none⟩ (.int .i64 kk)) := (Chg.refl _ _).setCell _ _ (fun _ => rfl)
      generalize w6.setCell ⟨x, 8, none⟩ (.int .i64 kk) = w7 at *
      clear m0 k8 f8 hx6
      have m0 := hx7.cell 0
      have m4 := hx7.cell 4
      have m8 := hx7.cell 8
      simp only [List.getElem?_cons_zero, List.getElem?_cons_succ] at m0 m4 m8
      have D := claimNew_any (bm := bm) kk cy w7.drew ucy
      go_region_held3 (fun w' => w'.cell? ⟨x, 0, none⟩ = some (.pointer (some ⟨bm, 0, none⟩)) ∧ w'.cell? ⟨x, 8, none⟩ = some (.int .i64 kk) ∧ w'.cell? ⟨x, 4, none⟩ = some (.int .u64 cy))
        (first | exact ⟨m0, m8, m4⟩ | exact ⟨j0, j8, j4⟩ | exact ⟨keepSet j0 (by simp), keepSet j8 (by simp), keepSet j4 (by simp)⟩)
        (first
         | (go_at_call 77; refine D.mono ?_; rintro r w8 ⟨cb, rfl, hcm8, zc1, zc2, hk8⟩
            have hx8 := hk8.blk hx7.drew
            have j0 := hx8.cell 0
            have j4 := hx8.cell 4
            have j8 := hx8.cell 8
            have j9 := hx8.cell 9
            have fj9 := hx8.free 9
            simp only [List.getElem?_cons_zero, List.getElem?_cons_succ] at j0 j4 j8 j9))
      have hx9 : Blk (w8.setCell ⟨x, 9, none⟩ (.pointer (some ⟨cb, 0, none⟩))) x 147 (scL bm ⟨i, v, fr, cy, p0, p1, at_ + 1, kk, ⟨3, 0, v, at_, 0⟩⟩ (.pointer (some ⟨cb, 0, none⟩)) ap ((slotsPc (at_ + 1) p1).val x)) := hx8.set' 9 _ rfl
      have hc9 : Chg (fun k => k = x) w8 (w8.setCell ⟨x, 9, none⟩ (.pointer (some ⟨cb, 0, none⟩))) := (Chg.refl _ _).setCell _ _ (fun _ => rfl)
      generalize w8.setCell ⟨x, 9, none⟩ (.pointer (some ⟨cb, 0, none⟩)) = w9 at *
      clear j0 j4 j8 j9 fj9 m0 m4 m8 hx8
      have k16 := hx9.cell 16
      have f16 := hx9.free 16
      simp only [List.getElem?_cons_zero, List.getElem?_cons_succ] at k16
      go_wp2_with fail
      go_end0
      have hx10 : Blk (w9.setCell ⟨x, 16, none⟩ ((YPc.claims).val x)) x 147 (scL bm ⟨i, v, fr, cy, p0, p1, at_ + 1, kk, ⟨3, 0, v, at_, 0⟩⟩ (.pointer (some ⟨cb, 0, none⟩)) ap ((YPc.claims).val x)) := hx9.set' 16 _ rfl
      have hc10 : Chg (fun k => k = x) w8 (w9.setCell ⟨x, 16, none⟩ ((YPc.claims).val x)) := hc9.setCell _ _ (fun _ => rfl)
      have z7 := hc7.size
      have zc1' : w7.heap.size ≤ cb := zc1
      have hcc : Chg (fun k => k = x) w6 (w9.setCell ⟨x, 16, none⟩ ((YPc.claims).val x)) := ((hc7.drew).trans (Chg.ofBelow hk8)).trans hc10
      have hcw : Chg (OwnB O bs bl) w (w9.setCell ⟨x, 16, none⟩ ((YPc.claims).val x)) := hcw6.trans (hcc.mono (fun k _ e => .inl (e ▸ xin)))
      have z10 := hc10.size
      refine ⟨rfl, ⟨ucy, ⟨num1, ⟨by show 0 ≤ at_ + 1; omega, by show at_ + 1 ≤ 1000; omega⟩, np0, np1⟩, fun e => (by cases e), grow_ok own hcw.size ls ll, .inl xin, _, ap, hx10, fun _ => ⟨rfl, cb, rfl, hcm8.chg hc10 (by show ¬ cb = x; omega), .inr ⟨by omega, Nat.lt_of_lt_of_le zc2 z10⟩, by omega⟩, fun e => (by cases e)⟩, hs6.chg hcc (Ne.symm lx.2.1) (Ne.symm lx.2.2), hcw⟩
    · have hd2 : decide (kk ≤ (nn : Int)) = false := decide_eq_false hk2
      rw [if_neg (fun e => hk2 e.2)]
      go_enter Tryz.func156, Tryz.ntmps156
      go_wp2_with fail
      go_region_held3 (fun w' => w'.cell? ⟨x, 0, none⟩ = some (.pointer (some ⟨bm, 0, none⟩)) ∧ w'.cell? ⟨x, 2, none⟩ = some (.int .i64 v) ∧ w'.cell? ⟨x, 7, none⟩ = some (.int .i64 at_))
        (first | exact ⟨g0, g2, g7⟩ | exact ⟨k0, k2, k7⟩)
        (first
         | (go_at_call 41; refine (load_any (pSlot c v at_) _ hs.drew).mono ?_; rintro r w2 ⟨rfl, hs2, hc2⟩
            rw [HT.out]
            have hx2 := hc2.blk hx.drew (show ¬ x = bs from lx.2.1)
            have k0 := hx2.cell 0
            have k2 := hx2.cell 2
            have k7 := hx2.cell 7
            simp only [List.getElem?_cons_zero, List.getElem?_cons_succ] at k0 k2 k7)
         | (go_at_call 42; refine (mSlot_any v at_ _ hm.drew hg).mono ?_; rintro r w2 ⟨rfl, rfl⟩))
      have hcw2 : Chg (OwnB O bs bl) w w2 := ((Chg.refl _ w).drew).trans (hc2.mono (fun _ _ e => .inr (.inl e)))
      clear g0 g2 g7 k0
      have k11 := hx2.cell 11
      have k12 := hx2.cell 12
      have k13 := hx2.cell 13
      have k14 := hx2.cell 14
      have k15 := hx2.cell 15
      have f11 := hx2.free 11
      have f12 := hx2.free 12
      have f13 := hx2.free 13
      have f14 := hx2.free 14
      have f15 := hx2.free 15
      simp only [List.getElem?_cons_zero, List.getElem?_cons_succ] at k11 k12 k13 k14 k15
      go_wp2_with fail
      go_region
      have hx3 : Blk ((((((w2.setCell ⟨x, 11, none⟩ (.int .i64 3)).setCell ⟨x, 12, none⟩ (.int .i64 0)).setCell ⟨x, 13, none⟩ (.int .i64 v)).setCell ⟨x, 14, none⟩ (.int .i64 at_)).setCell ⟨x, 15, none⟩ (.int .i64 0)).drew) x 147 (scL bm ⟨i, v, fr, cy, p0, p1, at_, w0, ⟨3, 0, v, at_, 0⟩⟩ cp ap ((YPc.slot).val x)) := (((((hx2.set' 11 _ rfl).set' 12 _ rfl).set' 13 _ rfl).set' 14 _ rfl).set' 15 _ rfl).drew
      have hc3 : Chg (fun k => k = x) w2 ((((((w2.setCell ⟨x, 11, none⟩ (.int .i64 3)).setCell ⟨x, 12, none⟩ (.int .i64 0)).setCell ⟨x, 13, none⟩ (.int .i64 v)).setCell ⟨x, 14, none⟩ (.int .i64 at_)).setCell ⟨x, 15, none⟩ (.int .i64 0)).drew) := ((((((Chg.refl (fun k => k = x) w2).setCell _ _ (fun _ => rfl)).setCell _ _ (fun _ => rfl)).setCell _ _ (fun _ => rfl)).setCell _ _ (fun _ => rfl)).setCell _ _ (fun _ => rfl)).drew
      generalize (((((w2.setCell ⟨x, 11, none⟩ (.int .i64 3)).setCell ⟨x, 12, none⟩ (.int .i64 0)).setCell ⟨x, 13, none⟩ (.int .i64 v)).setCell ⟨x, 14, none⟩ (.int .i64 at_)).setCell ⟨x, 15, none⟩ (.int .i64 0)).drew = w3 at *
      clear k2 k7 k11 k12 k13 k14 k15 f11 f12 f13 f14 f15
      have k7 := hx3.cell 7
      have f7 := hx3.free 7
      simp only [List.getElem?_cons_zero, List.getElem?_cons_succ] at k7
      go_wp2_with fail
      have hx4 : Blk (w3.setCell ⟨x, 7, none⟩ (.int .i64 (at_ + 1))) x 147 (scL bm ⟨i, v, fr, cy, p0, p1, at_ + 1, w0, ⟨3, 0, v, at_, 0⟩⟩ cp ap ((YPc.slot).val x)) := hx3.set' 7 _ rfl
      have hc4 : Chg (fun k => k = x) w2 (w3.setCell ⟨x, 7, none⟩ (.int .i64 (at_ + 1))) := hc3.setCell _ _ (fun _ => rfl)
      generalize w3.setCell ⟨x, 7, none⟩ (.int .i64 (at_ + 1)) = w4 at *
      clear k7 f7 hx3 hc3
      refine (scSlots_any w4 hx4).mono ?_; rintro r w5 ⟨rfl, n3, rfl⟩
      obtain ⟨fq, hv⟩ := slots_val (at_ + 1) p1 x
      have HV : Hid _ := hv
      rw [hv]
      clear hv
      have hx5 := hx4.chgN n3
      have hc5 : Chg (fun k => k = x) w4 (w4.drewN n3) := (Chg.refl _ w4).drewN n3
      generalize w4.drewN n3 = w5 at *
      have k16 := hx5.cell 16
      have f16 := hx5.free 16
      simp only [List.getElem?_cons_zero, List.getElem?_cons_succ] at k16
      have j0 := hx5.cell 0
      simp only [List.getElem?_cons_zero] at j0
      have hcc5 := hc4.trans hc5
      clear hc4 hc5
      go_wp2_with fail
      have hx6 : Blk (w5.setCell ⟨x, 16, none⟩ (.func (.func fq) #[.pointer (some ⟨x, 0, none⟩)] #[])) x 147 (scL bm ⟨i, v, fr, cy, p0, p1, at_ + 1, w0, ⟨3, 0, v, at_, 0⟩⟩ cp ap ((slotsPc (at_ + 1) p1).val x)) := by rw [HV.out]; exact hx5.set' 16 _ rfl
      have hc6 : Chg (fun k => k = x) w2 (w5.setCell ⟨x, 16, none⟩ (.func (.func fq) #[.pointer (some ⟨x, 0, none⟩)] #[])) := hcc5.setCell _ _ (fun _ => rfl)
      generalize w5.setCell ⟨x, 16, none⟩ (.func (.func fq) #[.pointer (some ⟨x, 0, none⟩)] #[]) = w6 at *
      clear k16 f16 hx5 hcc5 HV j0
      have hcw6 : Chg (OwnB O bs bl) w w6 := hcw2.trans (hc6.mono (fun k _ e => .inl (e ▸ xin)))
      have hs6 := hs2.chg hc6 (Ne.symm lx.2.1) (Ne.symm lx.2.2)
      have hm6 := hm.below (hcw6.ownBelow hB hO hBs hBl) (Nat.le_refl _)
      have z6 := hcw6.size
      clear hc2 hc6 hcw2 hs2 hx2
      have m0 := hx6.cell 0
      simp only [List.getElem?_cons_zero] at m0
      refine (mNodes_any w6 hm6).mono ?_; rintro r w7 ⟨rfl, rfl⟩
      rw [HNN.out]
      go_wp2_with fail
      go_end0
      exact ⟨rfl, ScAt.plain ucy ⟨num1, ⟨by show 0 ≤ at_ + 1; omega, by show at_ + 1 ≤ 1000; omega⟩, np0, np1⟩ slotsPc_slot (grow_ok own hcw6.size ls ll) (.inl xin) hx6 slotsPc_ne.1 slotsPc_ne.2.1, hs6, hcw6⟩
  · have hd1 : decide (1 ≤ kk) = false := decide_eq_false hk1
    rw [if_neg (fun e => hk1 e.1)]
    go_enter Tryz.func156, Tryz.ntmps156
    go_wp2_with fail
    go_region_held3 (fun w' => w'.cell? ⟨x, 0, none⟩ = some (.pointer (some ⟨bm, 0, none⟩)) ∧ w'.cell? ⟨x, 2, none⟩ = some (.int .i64 v) ∧ w'.cell? ⟨x, 7, none⟩ = some (.int .i64 at_))
      (first | exact ⟨g0, g2, g7⟩ | exact ⟨k0, k2, k7⟩)
      (first
       | (go_at_call 41; refine (load_any (pSlot c v at_) _ hs.drew).mono ?_; rintro r w2 ⟨rfl, hs2, hc2⟩
          rw [HT.out]
          have hx2 := hc2.blk hx.drew (show ¬ x = bs from lx.2.1)
          have k0 := hx2.cell 0
          have k2 := hx2.cell 2
          have k7 := hx2.cell 7
          simp only [List.getElem?_cons_zero, List.getElem?_cons_succ] at k0 k2 k7)
       | (go_at_call 42; refine (mSlot_any v at_ _ hm.drew hg).mono ?_; rintro r w2 ⟨rfl, rfl⟩))
    have hcw2 : Chg (OwnB O bs bl) w w2 := ((Chg.refl _ w).drew).trans (hc2.mono (fun _ _ e => .inr (.inl e)))
    clear g0 g2 g7 k0
    have k11 := hx2.cell 11
    have k12 := hx2.cell 12
    have k13 := hx2.cell 13
    have k14 := hx2.cell 14
    have k15 := hx2.cell 15
    have f11 := hx2.free 11
    have f12 := hx2.free 12
    have f13 := hx2.free 13
    have f14 := hx2.free 14
    have f15 := hx2.free 15
    simp only [List.getElem?_cons_zero, List.getElem?_cons_succ] at k11 k12 k13 k14 k15
    go_wp2_with fail
    go_region
    have hx3 : Blk ((((((w2.setCell ⟨x, 11, none⟩ (.int .i64 3)).setCell ⟨x, 12, none⟩ (.int .i64 0)).setCell ⟨x, 13, none⟩ (.int .i64 v)).setCell ⟨x, 14, none⟩ (.int .i64 at_)).setCell ⟨x, 15, none⟩ (.int .i64 0)).drew) x 147 (scL bm ⟨i, v, fr, cy, p0, p1, at_, w0, ⟨3, 0, v, at_, 0⟩⟩ cp ap ((YPc.slot).val x)) := (((((hx2.set' 11 _ rfl).set' 12 _ rfl).set' 13 _ rfl).set' 14 _ rfl).set' 15 _ rfl).drew
    have hc3 : Chg (fun k => k = x) w2 ((((((w2.setCell ⟨x, 11, none⟩ (.int .i64 3)).setCell ⟨x, 12, none⟩ (.int .i64 0)).setCell ⟨x, 13, none⟩ (.int .i64 v)).setCell ⟨x, 14, none⟩ (.int .i64 at_)).setCell ⟨x, 15, none⟩ (.int .i64 0)).drew) := ((((((Chg.refl (fun k => k = x) w2).setCell _ _ (fun _ => rfl)).setCell _ _ (fun _ => rfl)).setCell _ _ (fun _ => rfl)).setCell _ _ (fun _ => rfl)).setCell _ _ (fun _ => rfl)).drew
    generalize (((((w2.setCell ⟨x, 11, none⟩ (.int .i64 3)).setCell ⟨x, 12, none⟩ (.int .i64 0)).setCell ⟨x, 13, none⟩ (.int .i64 v)).setCell ⟨x, 14, none⟩ (.int .i64 at_)).setCell ⟨x, 15, none⟩ (.int .i64 0)).drew = w3 at *
    clear k2 k7 k11 k12 k13 k14 k15 f11 f12 f13 f14 f15
    have k7 := hx3.cell 7
    have f7 := hx3.free 7
    simp only [List.getElem?_cons_zero, List.getElem?_cons_succ] at k7
    go_wp2_with fail
    have hx4 : Blk (w3.setCell ⟨x, 7, none⟩ (.int .i64 (at_ + 1))) x 147 (scL bm ⟨i, v, fr, cy, p0, p1, at_ + 1, w0, ⟨3, 0, v, at_, 0⟩⟩ cp ap ((YPc.slot).val x)) := hx3.set' 7 _ rfl
    have hc4 : Chg (fun k => k = x) w2 (w3.setCell ⟨x, 7, none⟩ (.int .i64 (at_ + 1))) := hc3.setCell _ _ (fun _ => rfl)
    generalize w3.setCell ⟨x, 7, none⟩ (.int .i64 (at_ + 1)) = w4 at *
    clear k7 f7 hx3 hc3
    refine (scSlots_any w4 hx4).mono ?_; rintro r w5 ⟨rfl, n3, rfl⟩
    obtain ⟨fq, hv⟩ := slots_val (at_ + 1) p1 x
    have HV : Hid _ := hv
    rw [hv]
    clear hv
    have hx5 := hx4.chgN n3
    have hc5 : Chg (fun k => k = x) w4 (w4.drewN n3) := (Chg.refl _ w4).drewN n3
    generalize w4.drewN n3 = w5 at *
    have k16 := hx5.cell 16
    have f16 := hx5.free 16
    simp only [List.getElem?_cons_zero, List.getElem?_cons_succ] at k16
    have j0 := hx5.cell 0
    simp only [List.getElem?_cons_zero] at j0
    have hcc5 := hc4.trans hc5
    clear hc4 hc5
    go_wp2_with fail
    have hx6 : Blk (w5.setCell ⟨x, 16, none⟩ (.func (.func fq) #[.pointer (some ⟨x, 0, none⟩)] #[])) x 147 (scL bm ⟨i, v, fr, cy, p0, p1, at_ + 1, w0, ⟨3, 0, v, at_, 0⟩⟩ cp ap ((slotsPc (at_ + 1) p1).val x)) := by rw [HV.out]; exact hx5.set' 16 _ rfl
    have hc6 : Chg (fun k => k = x) w2 (w5.setCell ⟨x, 16, none⟩ (.func (.func fq) #[.pointer (some ⟨x, 0, none⟩)] #[])) := hcc5.setCell _ _ (fun _ => rfl)
    generalize w5.setCell ⟨x, 16, none⟩ (.func (.func fq) #[.pointer (some ⟨x, 0, none⟩)] #[]) = w6 at *
    clear k16 f16 hx5 hcc5 HV j0
    have hcw6 : Chg (OwnB O bs bl) w w6 := hcw2.trans (hc6.mono (fun k _ e => .inl (e ▸ xin)))
    have hs6 := hs2.chg hc6 (Ne.symm lx.2.1) (Ne.symm lx.2.2)
    have hm6 := hm.below (hcw6.ownBelow hB hO hBs hBl) (Nat.le_refl _)
    have z6 := hcw6.size
    clear hc2 hc6 hcw2 hs2 hx2
    have m0 := hx6.cell 0
    simp only [List.getElem?_cons_zero] at m0
    go_wp2_with fail
    go_end0
    exact ⟨rfl, ScAt.plain ucy ⟨num1, ⟨by show 0 ≤ at_ + 1; omega, by show at_ + 1 ≤ 1000; omega⟩, np0, np1⟩ slotsPc_slot (grow_ok own hcw6.size ls ll) (.inl xin) hx6 slotsPc_ne.1 slotsPc_ne.2.1, hs6, hcw6⟩

end Go.Proofs.YtapdpclgbpgklaaGreat
