/- A task that is done: a node is marked: walked. -/
import Derived.Test.YtapdpclgbpgklaaGreatPkScan3
namespace Go.Proofs.YtapdpclgbpgklaaGreat
open Go.RowKit

set_option maxRecDepth 8000 in
set_option maxHeartbeats 1600000 in
theorem scClaims_does {x bm bs bl B : Nat} {c : Cfg} {s : YS} {O : Nat → Prop} {mem : List Int} {n : Int} (w : World) (hg : Good c) (h : ScAt w x bm bs bl c s O) (hs : StoreAt w bs bl mem n) (hm : MapAt w B bm c) (hB : B ≤ w.heap.size) (hO : ∀ k, O k → B ≤ k) (hBs : B ≤ bs) (hBl : B ≤ bl) (hp : s.pc = .claims) (hev : s.ev = Ev.zero) :
    Calls Tryz.prog 178 #[.pointer (some ⟨x, 0, none⟩), .pointer (some ⟨bs, 0, none⟩)] w fun r w' => r = .returned (.tuple #[]) ∧ ScAt w' x bm bs bl c (scStep c mem s).2 (Grow O w w') ∧ StoreAt w' bs bl (scStep c mem s).1 (cnt n) ∧ Chg (OwnB O bs bl) w w' := by
  obtain ⟨pc, i, v, fr, cy, p0, p1, at_, w0, cm, am, ev⟩ := s
  simp only at hp hev
  subst hp hev
  obtain ⟨ucy, num, slo, own, xin, cp, ap, hx, h1, h2⟩ := h
  simp only [YS.sv] at hx ucy num slo h1 h2
  simp only [scStep]
  have lx := own x xin
  obtain ⟨ls, ll⟩ := hs.lt
  obtain ⟨hcf, cb, rfl, hcm, ocb, cbx⟩ := h1 (by trivial)
  clear h1 h2 slo
  have lcb := own cb ocb
  have D := cstep_any w hg hcm hs hm lcb.2.1 lcb.2.2
  rw [hcf] at D
  have nsx : ¬ StB cb bs bl x := fun e => e.elim (fun e => cbx e.symm) (fun e => e.elim lx.2.1 lx.2.2)
  have hst : ∀ k, StB cb bs bl k → OwnB O bs bl k := by
    rintro k (rfl | rfl | rfl)
    · exact .inl ocb
    · exact .inr (.inl rfl)
    · exact .inr (.inr rfl)
  generalize cmStep c mem cm = rr at *
  obtain ⟨mem2, cm2⟩ := rr
  simp only at D ⊢
  have g9 := hx.cell 9
  simp only [List.getElem?_cons_zero, List.getElem?_cons_succ] at g9
  cases hf : cm2.pc.fin
  · simp only [Bool.false_eq_true, ↓reduceIte]
    rw [hf] at D
    go_enter Tryz.func178, Tryz.ntmps178
    go_wp2_with fail
    refine D.mono ?_; rintro r w2 ⟨rfl, hcm2, hs2, hc2⟩
    go_wp2_with fail
    refine bodyPost_ret (results_none rfl _ _ _) rfl ?_
    have hcw : Chg (OwnB O bs bl) w w2 := hc2.mono (fun k _ e => hst k e)
    exact ⟨rfl, ⟨ucy, num, fun e => (by cases e), grow_ok own hcw.size ls ll, .inl xin, _, ap, hc2.blk hx nsx, fun _ => ⟨hf, cb, rfl, hcm2, .inl ocb, cbx⟩, fun e => (by cases e)⟩, hs2, hcw⟩
  · simp only [↓reduceIte]
    rw [hf] at D
    cases hw : cm2.won
    · simp only [Bool.false_eq_true, ↓reduceIte]
      go_enter Tryz.func178, Tryz.ntmps178
      go_wp2_with fail
      refine D.mono ?_; rintro r w2 ⟨rfl, hcm2, hs2, hc2⟩
      have hx2 := hc2.blk hx nsx
      have hcw2 : Chg (OwnB O bs bl) w w2 := hc2.mono (fun k _ e => hst k e)
      clear g9 hx hc2
      go_wp2_with fail
      refine (scSlots_any w2 hx2).mono ?_; rintro r w3 ⟨rfl, n3, rfl⟩
      obtain ⟨fq, hv⟩ := slots_val at_ p1 x
      have HV : Hid _ := hv
      rw [hv]
      clear hv
      have hx3 := hx2.chgN n3
      have hc3 : Chg (fun k => k = x) w2 (w2.drewN n3) := (Chg.refl _ w2).drewN n3
      generalize w2.drewN n3 = w3 at *
      have k16 := hx3.cell 16
      have f16 := hx3.free 16
      have j9 := hx3.cell 9
      simp only [List.getElem?_cons_zero, List.getElem?_cons_succ] at k16 j9
      go_wp2_with fail
      have hx4 : Blk (w3.setCell ⟨x, 16, none⟩ (.func (.func fq) #[.pointer (some ⟨x, 0, none⟩)] #[])) x 147 (scL bm ⟨i, v, fr, cy, p0, p1, at_, w0, Ev.zero⟩ (.pointer (some ⟨cb, 0, none⟩)) ap ((slotsPc at_ p1).val x)) := by rw [HV.out]; exact hx3.set' 16 _ rfl
      have hc4 : Chg (fun k => k = x) w2 (w3.setCell ⟨x, 16, none⟩ (.func (.func fq) #[.pointer (some ⟨x, 0, none⟩)] #[])) := hc3.setCell _ _ (fun _ => rfl)
      generalize w3.setCell ⟨x, 16, none⟩ (.func (.func fq) #[.pointer (some ⟨x, 0, none⟩)] #[]) = w4 at *
      clear k16 f16 j9 hx3 hc3 HV
      have hcm4 := hcm2.chg hc4 (show ¬ cb = x from cbx)
      have W := cwon_any w4 hcm4
      rw [hw] at W
      refine W.mono ?_; rintro r w5 ⟨rfl, rfl⟩
      have hcw4 : Chg (OwnB O bs bl) w w4 := hcw2.trans (hc4.mono (fun k _ e => .inl (e ▸ xin)))
      have hs4 := hs2.chg hc4 (Ne.symm lx.2.1) (Ne.symm lx.2.2)
      go_wp2_with fail
      go_end0
      exact ⟨rfl, ScAt.plain ucy num slotsPc_slot (grow_ok own hcw4.size ls ll) (.inl xin) hx4 slotsPc_ne.1 slotsPc_ne.2.1, hs4, hcw4⟩
    · simp only [↓reduceIte]
      go_enter Tryz.func178, Tryz.ntmps178
      go_wp2_with fail
      refine D.mono ?_; rintro r w2 ⟨rfl, hcm2, hs2, hc2⟩
      have hx2 := hc2.blk hx nsx
      have hcw2 : Chg (OwnB O bs bl) w w2 := hc2.mono (fun k _ e => hst k e)
      clear g9 hx hc2
      go_wp2_with fail
      refine (scSlots_any w2 hx2).mono ?_; rintro r w3 ⟨rfl, n3, rfl⟩
      obtain ⟨fq, hv⟩ := slots_val at_ p1 x
      have HV : Hid _ := hv
      rw [hv]
      clear hv
      have hx3 := hx2.chgN n3
      have hc3 : Chg (fun k => k = x) w2 (w2.drewN n3) := (Chg.refl _ w2).drewN n3
      generalize w2.drewN n3 = w3 at *
      have k16 := hx3.cell 16
      have f16 := hx3.free 16
      have j9 := hx3.cell 9
      simp only [List.getElem?_cons_zero, List.getElem?_cons_succ] at k16 j9
      go_wp2_with fail
      have hx4 : Blk (w3.setCell ⟨x, 16, none⟩ (.func (.func fq) #[.pointer (some ⟨x, 0, none⟩)] #[])) x 147 (scL bm ⟨i, v, fr, cy, p0, p1, at_, w0, Ev.zero⟩ (.pointer (some ⟨cb, 0, none⟩)) ap ((slotsPc at_ p1).val x)) := by rw [HV.out]; exact hx3.set' 16 _ rfl
      have hc4 : Chg (fun k => k = x) w2 (w3.setCell ⟨x, 16, none⟩ (.func (.func fq) #[.pointer (some ⟨x, 0, none⟩)] #[])) := hc3.setCell _ _ (fun _ => rfl)
      generalize w3.setCell ⟨x, 16, none⟩ (.func (.func fq) #[.pointer (some ⟨x, 0, none⟩)] #[]) = w4 at *
      clear k16 f16 j9 hx3 hc3 HV
      have hcm4 := hcm2.chg hc4 (show ¬ cb = x from cbx)
      have W := cwon_any w4 hcm4
      rw [hw] at W
      refine W.mono ?_; rintro r w5 ⟨rfl, rfl⟩
      have hcw4 : Chg (OwnB O bs bl) w w4 := hcw2.trans (hc4.mono (fun k _ e => .inl (e ▸ xin)))
      have hs4 := hs2.chg hc4 (Ne.symm lx.2.1) (Ne.symm lx.2.2)
      have k8 := hx4.cell 8
      simp only [List.getElem?_cons_zero, List.getElem?_cons_succ] at k8
      have k11 := hx4.cell 11
      have k12 := hx4.cell 12
      have k13 := hx4.cell 13
      have k14 := hx4.cell 14
      have k15 := hx4.cell 15
      have f11 := hx4.free 11
      have f12 := hx4.free 12
      have f13 := hx4.free 13
      have f14 := hx4.free 14
      have f15 := hx4.free 15
      simp only [List.getElem?_cons_zero, List.getElem?_cons_succ] at k11 k12 k13 k14 k15
      go_wp2_with fail
      have hx6 : Blk ((((((w4.setCell ⟨x, 11, none⟩ (.int .i64 1)).setCell ⟨x, 12, none⟩ (.int .i64 0)).setCell ⟨x, 13, none⟩ (.int .i64 w0)).setCell ⟨x, 14, none⟩ (.int .i64 0)).setCell ⟨x, 15, none⟩ (.int .i64 0))) x 147 (scL bm ⟨i, v, fr, cy, p0, p1, at_, w0, ⟨1, 0, w0, 0, 0⟩⟩ (.pointer (some ⟨cb, 0, none⟩)) ap ((slotsPc at_ p1).val x)) := (((((hx4.set' 11 _ rfl).set' 12 _ rfl).set' 13 _ rfl).set' 14 _ rfl).set' 15 _ rfl)
      have hc6 : Chg (fun k => k = x) w4 ((((((w4.setCell ⟨x, 11, none⟩ (.int .i64 1)).setCell ⟨x, 12, none⟩ (.int .i64 0)).setCell ⟨x, 13, none⟩ (.int .i64 w0)).setCell ⟨x, 14, none⟩ (.int .i64 0)).setCell ⟨x, 15, none⟩ (.int .i64 0))) := ((((((Chg.refl (fun k => k = x) w4).setCell _ _ (fun _ => rfl)).setCell _ _ (fun _ => rfl)).setCell _ _ (fun _ => rfl)).setCell _ _ (fun _ => rfl)).setCell _ _ (fun _ => rfl))
      generalize (((((w4.setCell ⟨x, 11, none⟩ (.int .i64 1)).setCell ⟨x, 12, none⟩ (.int .i64 0)).setCell ⟨x, 13, none⟩ (.int .i64 w0)).setCell ⟨x, 14, none⟩ (.int .i64 0)).setCell ⟨x, 15, none⟩ (.int .i64 0)) = w6 at *
      clear k8 k11 k12 k13 k14 k15 f11 f12 f13 f14 f15
      have hcw6 : Chg (OwnB O bs bl) w w6 := hcw4.trans (hc6.mono (fun k _ e => .inl (e ▸ xin)))
      have hs6 := hs4.chg hc6 (Ne.symm lx.2.1) (Ne.symm lx.2.2)
      have hm6 := hm.below (hcw6.ownBelow hB hO hBs hBl) (Nat.le_refl _)
      have z6 := hcw6.size
      have k8 := hx6.cell 8
      simp only [List.getElem?_cons_zero, List.getElem?_cons_succ] at k8
      go_wp2_with fail
      refine (scGive_any w0 0 w6 hg hx6 hm6 (Nat.le_trans hB z6) hs6.lt.1 hs6.lt.2).mono ?_; rintro r w7 ⟨rfl, a, hx7, ha7, hc7⟩
      go_wp2_with fail
      go_end0
      have hcw : Chg (OwnB O bs bl) w w7 := hcw6.trans (hc7.mono (fun k _ e => .inl (e ▸ xin)))
      exact ⟨rfl, ⟨ucy, num, fun e => (by cases e), grow_ok own hcw.size ls ll, .inl xin, _, _, hx7, fun e => (by cases e), fun _ => ⟨newAM_pc num.1, a, _, rfl, ha7, fun k hk => .inr ⟨Nat.le_trans z6 hk.1, hk.2⟩, fun e => by have : w6.heap.size ≤ x := e.1; omega⟩⟩, hs6.chg hc7 (Ne.symm lx.2.1) (Ne.symm lx.2.2), hcw⟩

end Go.Proofs.YtapdpclgbpgklaaGreat
