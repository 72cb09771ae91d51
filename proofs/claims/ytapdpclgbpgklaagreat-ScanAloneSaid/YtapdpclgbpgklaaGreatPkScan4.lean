/- A task that is done: its piece is found: walked. -/
import Derived.Test.YtapdpclgbpgklaaGreatPkScan3
namespace Go.Proofs.YtapdpclgbpgklaaGreat
open Go.RowKit

theorem cfg_ch (a b d e f g i j k l m n : Int) (W : World) : (Instr.field 24 (.agg #[.int .i64 a, .int .i64 b, .int .i64 d, .int .i64 e, .int .i64 f, .int .i64 g, .int .i64 i, .int .i64 j, .int .i64 k, .int .i64 l, .int .i64 m, .int .i64 n]) 4).run Tryz.prog W = .ok (.int .i64 k) W := by kernel_rfl

set_option maxRecDepth 8000 in
set_option maxHeartbeats 1600000 in
theorem scHead_does {x bm bs bl B : Nat} {c : Cfg} {s : YS} {O : Nat → Prop} {mem : List Int} {n : Int} (w : World) (hg : Good c) (h : ScAt w x bm bs bl c s O) (hs : StoreAt w bs bl mem n) (hm : MapAt w B bm c) (hB : B ≤ w.heap.size) (hO : ∀ k, O k → B ≤ k) (hBs : B ≤ bs) (hBl : B ≤ bl) (hp : s.pc = .head) (hev : s.ev = Ev.zero) :
    Calls Tryz.prog 86 #[.pointer (some ⟨x, 0, none⟩), .pointer (some ⟨bs, 0, none⟩)] w fun r w' => r = .returned (.tuple #[]) ∧ ScAt w' x bm bs bl c (scStep c mem s).2 (Grow O w w') ∧ StoreAt w' bs bl (scStep c mem s).1 (cnt n) ∧ Chg (OwnB O bs bl) w w' := by
  obtain ⟨pc, i, v, fr, cy, p0, p1, at_, w0, cm, am, ev⟩ := s
  simp only at hp hev
  subst hp hev
  obtain ⟨ucy, num, slo, own, xin, cp, ap, hx, h1, h2⟩ := h
  simp only [YS.sv] at hx ucy num slo h1 h2
  simp only [scStep]
  have lx := own x xin
  obtain ⟨ls, ll⟩ := hs.lt
  clear h1 h2 slo
  have hU := mget_all hs.all (pNode c v 0)
  have hr := room_bound c v
  generalize hhn : headN c mem v = hn at *
  unfold headN at hhn
  generalize hsf : (if tI hn fr c.ch < sI hn then YPc.count else slotsPc (fI hn fr) (tI hn fr c.ch)) = pcF at *
  have HPF : Hid ((if tI hn fr c.ch < sI hn then YPc.count else slotsPc (fI hn fr) (tI hn fr c.ch)) = pcF) := hsf
  clear hsf
  generalize ht : mget mem (pNode c v 0) = kk at *
  have HT : Hid (mget mem (pNode c v 0) = kk) := ht
  clear ht
  generalize hrr : room c v = rr at *
  have HR : Hid (room c v = rr) := hrr
  clear hrr
  have HH : Hid (min kk rr = hn) := hhn
  have hhb : 0 ≤ hn ∧ hn ≤ 100 := by unfold U at hU; omega
  obtain ⟨hh0, hh1⟩ := hhb
  clear hhn
  unfold U at hU
  obtain ⟨hU0, hU1⟩ := hU
  obtain ⟨hr0, hr1⟩ := hr
  have yr : IntKind.u64.wrap rr = rr := by rw [IntKind.wrap_u64]; omega
  have ym : IntKind.i64.wrap hn = hn := wrap_small (by omega) (by omega)
  have g0 := hx.cell 0
  have g2 := hx.cell 2
  simp only [List.getElem?_cons_zero, List.getElem?_cons_succ] at g0 g2
  have hmK := hm.drew
  go_enter Tryz.func86, Tryz.ntmps86
  go_wp2_with fail
  go_region_held3 (fun w' => w'.cell? ⟨x, 0, none⟩ = some (.pointer (some ⟨bm, 0, none⟩)) ∧ w'.cell? ⟨x, 2, none⟩ = some (.int .i64 v))
    (first | exact ⟨g0, g2⟩ | exact ⟨k0, k2⟩)
    (first
     | (go_at_call 41; refine (load_any (pNode c v 0) _ hs.drew).mono ?_; rintro r w2 ⟨rfl, hs2, hc2⟩
        rw [HT.out]
        have hx2 := hc2.blk hx.drew (show ¬ x = bs from lx.2.1)
        have hmK := hm.drew.below (hc2.toBelow hB (fun q hq e => by omega)) (Nat.le_refl _)
        have k0 := hx2.cell 0
        have k2 := hx2.cell 2
        simp only [List.getElem?_cons_zero, List.getElem?_cons_succ] at k0 k2)
     | (go_at_call 36; refine (mHeader_any v _ hmK hg).mono ?_; rintro r w2 ⟨rfl, rfl⟩)
     | (go_at_call 35; refine (mRoom_any v _ hmK hg).mono ?_; rintro r w2 ⟨rfl, rfl⟩; rw [HR.out]))
  rw [HH.out]
  go_wp2_with fail
  have h0 := hx2.cell 0
  have h3 := hx2.cell 3
  simp only [List.getElem?_cons_zero, List.getElem?_cons_succ] at h0 h3
  have hcf := fun W => cfg_ch c.c0 c.c1 c.c2 c.c3 c.c4 c.mks c.mus c.dq c.ch c.bu c.ro c.sw W
  have hxl2 : x < w2.heap.size := hx2.lt
  have hKd : Kept w2 w2.drew := (Below.refl _ _).drew
  have hKa : ∀ (W : World) (o : Obj), Kept w2 W → Kept w2 (W.alloc o) := fun W o h => h.alloc h.size o
  have hB2 : B ≤ w2.heap.size := Nat.le_trans hB hc2.size
  have hmk : ∀ W, Kept w2 W → MapAt W B bm c := fun W h => hmK.kept h hB2
  go_region_held3 (fun w' => w'.cell? ⟨x, 0, none⟩ = some (.pointer (some ⟨bm, 0, none⟩)) ∧ w'.cell? ⟨x, 3, none⟩ = some (.int .i64 fr))
    (first | exact ⟨h0, h3⟩ | exact ⟨i0, i3⟩ | exact ⟨(hx2.drew.alloc _).cell 0, (hx2.drew.alloc _).cell 3⟩ | exact ⟨(hx8.alloc _).cell 0, (hx8.alloc _).cell 3⟩ | exact ⟨(hx7.alloc _).cell 0, (hx7.alloc _).cell 3⟩ | exact ⟨keepSet (keepSet i0 (by simp <;> omega)) (by simp <;> omega), keepSet (keepSet i3 (by simp <;> omega)) (by simp <;> omega)⟩)
    (first
     | (go_at_call 124; refine (mConfig_any (B := B) _ (hmk _ (by first | exact hKd | exact hKa _ _ hKd))).mono ?_; rintro r w7 ⟨rfl, hk7⟩
        have hK7 : Kept w2 w7 := by first | exact hKd.trans' hk7 | exact (hKa _ _ hKd).trans' hk7
        have hx7 := hK7.blk hx2
        have hz7 : w2.heap.size ≤ w7.heap.size := hK7.size
        try have hp7 : Blk w7 w2.heap.size 145 [.int .i64 0, .int .i64 0] := hk7.blk (Blk.new w2.drew 145 [.int .i64 0, .int .i64 0])
        try have p70 := hp7.cell 0
        try have p71 := hp7.cell 1
        try have q70 := hp7.free 0
        try have q71 := hp7.free 1
        try simp only [List.getElem?_cons_zero, List.getElem?_cons_succ] at p70 p71
        have i0 := hx7.cell 0
        have i3 := hx7.cell 3
        simp only [List.getElem?_cons_zero, List.getElem?_cons_succ] at i0 i3)
     | (go_at_call 132; refine (next_any hn fr c.ch _).mono ?_; rintro r w8 ⟨rfl, hk8⟩
        have hK8 : Kept w2 w8 := by first | exact hK7.trans' hk8 | exact (hKa _ _ hK7).trans' hk8
        have hx8 := hK8.blk hx2
        have hz8 : w2.heap.size ≤ w8.heap.size := hK8.size
        try (first | have hp8 : Blk w8 w2.heap.size 145 [.int .i64 0, .int .i64 0] := hk8.blk hp7 | have hp8 : Blk w8 w7.heap.size 145 [.int .i64 0, .int .i64 0] := hk8.blk (Blk.new w7 145 [.int .i64 0, .int .i64 0]))
        try have p80 := hp8.cell 0
        try have p81 := hp8.cell 1
        try have q80 := hp8.free 0
        try have q81 := hp8.free 1
        try simp only [List.getElem?_cons_zero, List.getElem?_cons_succ] at p80 p81
        have i0 := hx8.cell 0
        have i3 := hx8.cell 3
        simp only [List.getElem?_cons_zero, List.getElem?_cons_succ] at i0 i3))
  · have hp9 : Blk (w8.alloc (.cells #[.int .i64 (fI hn fr), .int .i64 (tI hn fr c.ch)] 145)) w8.heap.size 145 [.int .i64 (fI hn fr), .int .i64 (tI hn fr c.ch)] := Blk.new _ _ _
    have hK9 : Kept w2 (w8.alloc (.cells #[.int .i64 (fI hn fr), .int .i64 (tI hn fr c.ch)] 145)) := hKa _ _ hK8
    have hP9 : x < w8.heap.size := by omega
    generalize w8.alloc (.cells #[.int .i64 (fI hn fr), .int .i64 (tI hn fr c.ch)] 145) = w9 at hp9 hK9 ⊢
    generalize w8.heap.size = P at hp9 hP9 ⊢
    have hx9 := hK9.blk hx2
    have hPx : ¬ P = x := by omega
    clear hKd hKa hmk i0 i3 h0 h3 hk7 hk8 hK7 hK8 hx7 hx8 hz7 hz8
    try clear hp7 hp8 p70 p71 q70 q71
    try clear p80 p81 q80 q81
    have c0 := hp9.cell 0
    have c1 := hp9.cell 1
    have k5 := hx9.cell 5
    have k6 := hx9.cell 6
    have k7 := hx9.cell 7
    have f5 := hx9.free 5
    have f6 := hx9.free 6
    have f7 := hx9.free 7
    simp only [List.getElem?_cons_zero, List.getElem?_cons_succ] at c0 c1 k5 k6 k7
    go_wp2_with fail
    go_region
    have hs9 := hs2.kept hK9
    have hcw9 : Chg (OwnB O bs bl) w w9 := (((Chg.refl _ w).drew).trans (hc2.mono (fun _ _ e => .inr (.inl e)))).trans (Chg.ofBelow hK9)
    have hx10 : Blk ((((w9.setCell ⟨x, 5, none⟩ (.int .i64 (fI hn fr))).setCell ⟨x, 6, none⟩ (.int .i64 (tI hn fr c.ch))).setCell ⟨x, 7, none⟩ (.int .i64 (fI hn fr))).drew) x 147 (scL bm ⟨i, v, fr, cy, fI hn fr, tI hn fr c.ch, fI hn fr, w0, Ev.zero⟩ cp ap ((YPc.head).val x)) := (((hx9.set' 5 _ rfl).set' 6 _ rfl).set' 7 _ rfl).drew
    have hc10 : Chg (fun k => k = x) w9 ((((w9.setCell ⟨x, 5, none⟩ (.int .i64 (fI hn fr))).setCell ⟨x, 6, none⟩ (.int .i64 (tI hn fr c.ch))).setCell ⟨x, 7, none⟩ (.int .i64 (fI hn fr))).drew) := ((((Chg.refl (fun k => k = x) w9).setCell _ _ (fun _ => rfl)).setCell _ _ (fun _ => rfl)).setCell _ _ (fun _ => rfl)).drew
    generalize (((w9.setCell ⟨x, 5, none⟩ (.int .i64 (fI hn fr))).setCell ⟨x, 6, none⟩ (.int .i64 (tI hn fr c.ch))).setCell ⟨x, 7, none⟩ (.int .i64 (fI hn fr))).drew = w10 at *
    clear c0 c1 k5 k6 k7 f5 f6 f7 hx9 hp9 hK9
    go_wp2_with fail
    refine (scSlots_any w10 hx10).mono ?_; rintro r w11 ⟨rfl, n3, rfl⟩
    obtain ⟨fq, hv⟩ := slots_val (fI hn fr) (tI hn fr c.ch) x
    have HV : Hid _ := hv
    rw [hv]
    clear hv
    have hx11 := hx10.chgN n3
    have hc11 := hc10.trans ((Chg.refl (fun k => k = x) w10).drewN n3)
    generalize w10.drewN n3 = w11 at *
    have k16 := hx11.cell 16
    have f16 := hx11.free 16
    simp only [List.getElem?_cons_zero, List.getElem?_cons_succ] at k16
    have hb0 := fI_bound hn fr
    have hb1 := tI_bound hn fr c.ch
    by_cases hmore : tI hn fr c.ch < sI hn
    · have hd : decide (tI hn fr c.ch < sI hn) = true := decide_eq_true hmore
      have HM : Hid _ := hmore
      clear hmore
      go_wp2_with fail
      go_end0
      rw [show pcF = YPc.count from by rw [← HPF.out, if_pos HM.out]]
      have hx12 : Blk ((w11.setCell ⟨x, 16, none⟩ (.func (.func fq) #[.pointer (some ⟨x, 0, none⟩)] #[])).setCell ⟨x, 16, none⟩ (.func (.func 134) #[.pointer (some ⟨x, 0, none⟩)] #[])) x 147 (scL bm ⟨i, v, fr, cy, fI hn fr, tI hn fr c.ch, fI hn fr, w0, Ev.zero⟩ cp ap ((YPc.count).val x)) := (hx11.set' 16 (.func (.func fq) #[.pointer (some ⟨x, 0, none⟩)] #[]) rfl).set' 16 _ rfl
      have hc12 : Chg (fun k => k = x) w9 ((w11.setCell ⟨x, 16, none⟩ (.func (.func fq) #[.pointer (some ⟨x, 0, none⟩)] #[])).setCell ⟨x, 16, none⟩ (.func (.func 134) #[.pointer (some ⟨x, 0, none⟩)] #[])) := (hc11.setCell _ _ (fun _ => rfl)).setCell _ _ (fun _ => rfl)
      have hcw := hcw9.trans (hc12.mono (T := OwnB O bs bl) (fun k _ e => .inl (e ▸ xin)))
      exact ⟨rfl, ScAt.plain ucy ⟨num.1, hb0, hb1⟩ (fun e => by cases e) (grow_ok own hcw.size ls ll) (.inl xin) hx12 (fun e => by cases e) (fun e => by cases e), hs9.chg hc12 (Ne.symm lx.2.1) (Ne.symm lx.2.2), hcw⟩
    · have hd : decide (tI hn fr c.ch < sI hn) = false := decide_eq_false hmore
      have HM : Hid _ := hmore
      clear hmore
      go_wp2_with fail
      go_end0
      rw [show pcF = slotsPc (fI hn fr) (tI hn fr c.ch) from by rw [← HPF.out, if_neg HM.out]]
      have hx12 : Blk (w11.setCell ⟨x, 16, none⟩ (.func (.func fq) #[.pointer (some ⟨x, 0, none⟩)] #[])) x 147 (scL bm ⟨i, v, fr, cy, fI hn fr, tI hn fr c.ch, fI hn fr, w0, Ev.zero⟩ cp ap ((slotsPc (fI hn fr) (tI hn fr c.ch)).val x)) := by rw [HV.out]; exact hx11.set' 16 _ rfl
      have hc12 : Chg (fun k => k = x) w9 (w11.setCell ⟨x, 16, none⟩ (.func (.func fq) #[.pointer (some ⟨x, 0, none⟩)] #[])) := hc11.setCell _ _ (fun _ => rfl)
      have hcw := hcw9.trans (hc12.mono (T := OwnB O bs bl) (fun k _ e => .inl (e ▸ xin)))
      exact ⟨rfl, ScAt.plain ucy ⟨num.1, hb0, hb1⟩ slotsPc_slot (grow_ok own hcw.size ls ll) (.inl xin) hx12 slotsPc_ne.1 slotsPc_ne.2.1, hs9.chg hc12 (Ne.symm lx.2.1) (Ne.symm lx.2.2), hcw⟩
  · have hp9 : Blk ((w8.setCell ⟨w7.heap.size, 0, none⟩ (.int .i64 (fI hn fr))).setCell ⟨w7.heap.size, 1, none⟩ (.int .i64 (tI hn fr c.ch))) w7.heap.size 145 [.int .i64 (fI hn fr), .int .i64 (tI hn fr c.ch)] := (hp8.set' 0 _ rfl).set' 1 _ rfl
    have hK9 : Kept w2 ((w8.setCell ⟨w7.heap.size, 0, none⟩ (.int .i64 (fI hn fr))).setCell ⟨w7.heap.size, 1, none⟩ (.int .i64 (tI hn fr c.ch))) := (hK8.setCell (p := ⟨w7.heap.size, 0, none⟩) (hz7) _).setCell (p := ⟨w7.heap.size, 1, none⟩) (hz7) _
    have hP9 : x < w7.heap.size := by omega
    generalize ((w8.setCell ⟨w7.heap.size, 0, none⟩ (.int .i64 (fI hn fr))).setCell ⟨w7.heap.size, 1, none⟩ (.int .i64 (tI hn fr c.ch))) = w9 at hp9 hK9 ⊢
    generalize w7.heap.size = P at hp9 hP9 ⊢
    have hx9 := hK9.blk hx2
    have hPx : ¬ P = x := by omega
    clear hKd hKa hmk i0 i3 h0 h3 hk7 hk8 hK7 hK8 hx7 hx8 hz7 hz8
    try clear hp7 hp8 p70 p71 q70 q71
    try clear p80 p81 q80 q81
    have c0 := hp9.cell 0
    have c1 := hp9.cell 1
    have k5 := hx9.cell 5
    have k6 := hx9.cell 6
    have k7 := hx9.cell 7
    have f5 := hx9.free 5
    have f6 := hx9.free 6
    have f7 := hx9.free 7
    simp only [List.getElem?_cons_zero, List.getElem?_cons_succ] at c0 c1 k5 k6 k7
    go_wp2_with fail
    go_region
    have hs9 := hs2.kept hK9
    have hcw9 : Chg (OwnB O bs bl) w w9 := (((Chg.refl _ w).drew).trans (hc2.mono (fun _ _ e => .inr (.inl e)))).trans (Chg.ofBelow hK9)
    have hx10 : Blk ((((w9.setCell ⟨x, 5, none⟩ (.int .i64 (fI hn fr))).setCell ⟨x, 6, none⟩ (.int .i64 (tI hn fr c.ch))).setCell ⟨x, 7, none⟩ (.int .i64 (fI hn fr))).drew) x 147 (scL bm ⟨i, v, fr, cy, fI hn fr, tI hn fr c.ch, fI hn fr, w0, Ev.zero⟩ cp ap ((YPc.head).val x)) := (((hx9.set' 5 _ rfl).set' 6 _ rfl).set' 7 _ rfl).drew
    have hc10 : Chg (fun k => k = x) w9 ((((w9.setCell ⟨x, 5, none⟩ (.int .i64 (fI hn fr))).setCell ⟨x, 6, none⟩ (.int .i64 (tI hn fr c.ch))).setCell ⟨x, 7, none⟩ (.int .i64 (fI hn fr))).drew) := ((((Chg.refl (fun k => k = x) w9).setCell _ _ (fun _ => rfl)).setCell _ _ (fun _ => rfl)).setCell _ _ (fun _ => rfl)).drew
    generalize (((w9.setCell ⟨x, 5, none⟩ (.int .i64 (fI hn fr))).setCell ⟨x, 6, none⟩ (.int .i64 (tI hn fr c.ch))).setCell ⟨x, 7, none⟩ (.int .i64 (fI hn fr))).drew = w10 at *
    clear c0 c1 k5 k6 k7 f5 f6 f7 hx9 hp9 hK9
    go_wp2_with fail
    refine (scSlots_any w10 hx10).mono ?_; rintro r w11 ⟨rfl, n3, rfl⟩
    obtain ⟨fq, hv⟩ := slots_val (fI hn fr) (tI hn fr c.ch) x
    have HV : Hid _ := hv
    rw [hv]
    clear hv
    have hx11 := hx10.chgN n3
    have hc11 := hc10.trans ((Chg.refl (fun k => k = x) w10).drewN n3)
    generalize w10.drewN n3 = w11 at *
    have k16 := hx11.cell 16
    have f16 := hx11.free 16
    simp only [List.getElem?_cons_zero, List.getElem?_cons_succ] at k16
    have hb0 := fI_bound hn fr
    have hb1 := tI_bound hn fr c.ch
    by_cases hmore : tI hn fr c.ch < sI hn
    · have hd : decide (tI hn fr c.ch < sI hn) = true := decide_eq_true hmore
      have HM : Hid _ := hmore
      clear hmore
      go_wp2_with fail
      go_end0
      rw [show pcF = YPc.count from by rw [← HPF.out, if_pos HM.out]]
      have hx12 : Blk ((w11.setCell ⟨x, 16, none⟩ (.func (.func fq) #[.pointer (some ⟨x, 0, none⟩)] #[])).setCell ⟨x, 16, none⟩ (.func (.func 134) #[.pointer (some ⟨x, 0, none⟩)] #[])) x 147 (scL bm ⟨i, v, fr, cy, fI hn fr, tI hn fr c.ch, fI hn fr, w0, Ev.zero⟩ cp ap ((YPc.count).val x)) := (hx11.set' 16 (.func (.func fq) #[.pointer (some ⟨x, 0, none⟩)] #[]) rfl).set' 16 _ rfl
      have hc12 : Chg (fun k => k = x) w9 ((w11.setCell ⟨x, 16, none⟩ (.func (.func fq) #[.pointer (some ⟨x, 0, none⟩)] #[])).setCell ⟨x, 16, none⟩ (.func (.func 134) #[.pointer (some ⟨x, 0, none⟩)] #[])) := (hc11.setCell _ _ (fun _ => rfl)).setCell _ _ (fun _ => rfl)
      have hcw := hcw9.trans (hc12.mono (T := OwnB O bs bl) (fun k _ e => .inl (e ▸ xin)))
      exact ⟨rfl, ScAt.plain ucy ⟨num.1, hb0, hb1⟩ (fun e => by cases e) (grow_ok own hcw.size ls ll) (.inl xin) hx12 (fun e => by cases e) (fun e => by cases e), hs9.chg hc12 (Ne.symm lx.2.1) (Ne.symm lx.2.2), hcw⟩
    · have hd : decide (tI hn fr c.ch < sI hn) = false := decide_eq_false hmore
      have HM : Hid _ := hmore
      clear hmore
      go_wp2_with fail
      go_end0
      rw [show pcF = slotsPc (fI hn fr) (tI hn fr c.ch) from by rw [← HPF.out, if_neg HM.out]]
      have hx12 : Blk (w11.setCell ⟨x, 16, none⟩ (.func (.func fq) #[.pointer (some ⟨x, 0, none⟩)] #[])) x 147 (scL bm ⟨i, v, fr, cy, fI hn fr, tI hn fr c.ch, fI hn fr, w0, Ev.zero⟩ cp ap ((slotsPc (fI hn fr) (tI hn fr c.ch)).val x)) := by rw [HV.out]; exact hx11.set' 16 _ rfl
      have hc12 : Chg (fun k => k = x) w9 (w11.setCell ⟨x, 16, none⟩ (.func (.func fq) #[.pointer (some ⟨x, 0, none⟩)] #[])) := hc11.setCell _ _ (fun _ => rfl)
      have hcw := hcw9.trans (hc12.mono (T := OwnB O bs bl) (fun k _ e => .inl (e ▸ xin)))
      exact ⟨rfl, ScAt.plain ucy ⟨num.1, hb0, hb1⟩ slotsPc_slot (grow_ok own hcw.size ls ll) (.inl xin) hx12 slotsPc_ne.1 slotsPc_ne.2.1, hs9.chg hc12 (Ne.symm lx.2.1) (Ne.symm lx.2.2), hcw⟩
  · have hp9 : Blk ((w8.setCell ⟨w2.heap.size, 0, none⟩ (.int .i64 (fI hn fr))).setCell ⟨w2.heap.size, 1, none⟩ (.int .i64 (tI hn fr c.ch))) w2.heap.size 145 [.int .i64 (fI hn fr), .int .i64 (tI hn fr c.ch)] := (hp8.set' 0 _ rfl).set' 1 _ rfl
    have hK9 : Kept w2 ((w8.setCell ⟨w2.heap.size, 0, none⟩ (.int .i64 (fI hn fr))).setCell ⟨w2.heap.size, 1, none⟩ (.int .i64 (tI hn fr c.ch))) := (hK8.setCell (p := ⟨w2.heap.size, 0, none⟩) (Nat.le_refl _) _).setCell (p := ⟨w2.heap.size, 1, none⟩) (Nat.le_refl _) _
    have hP9 : x < w2.heap.size := by omega
    generalize ((w8.setCell ⟨w2.heap.size, 0, none⟩ (.int .i64 (fI hn fr))).setCell ⟨w2.heap.size, 1, none⟩ (.int .i64 (tI hn fr c.ch))) = w9 at hp9 hK9 ⊢
    generalize w2.heap.size = P at hp9 hP9 ⊢
    have hx9 := hK9.blk hx2
    have hPx : ¬ P = x := by omega
    clear hKd hKa hmk i0 i3 h0 h3 hk7 hk8 hK7 hK8 hx7 hx8 hz7 hz8
    try clear hp7 hp8 p70 p71 q70 q71
    try clear p80 p81 q80 q81
    have c0 := hp9.cell 0
    have c1 := hp9.cell 1
    have k5 := hx9.cell 5
    have k6 := hx9.cell 6
    have k7 := hx9.cell 7
    have f5 := hx9.free 5
    have f6 := hx9.free 6
    have f7 := hx9.free 7
    simp only [List.getElem?_cons_zero, List.getElem?_cons_succ] at c0 c1 k5 k6 k7
    go_wp2_with fail
    go_region
    have hs9 := hs2.kept hK9
    have hcw9 : Chg (OwnB O bs bl) w w9 := (((Chg.refl _ w).drew).trans (hc2.mono (fun _ _ e => .inr (.inl e)))).trans (Chg.ofBelow hK9)
    have hx10 : Blk ((((w9.setCell ⟨x, 5, none⟩ (.int .i64 (fI hn fr))).setCell ⟨x, 6, none⟩ (.int .i64 (tI hn fr c.ch))).setCell ⟨x, 7, none⟩ (.int .i64 (fI hn fr))).drew) x 147 (scL bm ⟨i, v, fr, cy, fI hn fr, tI hn fr c.ch, fI hn fr, w0, Ev.zero⟩ cp ap ((YPc.head).val x)) := (((hx9.set' 5 _ rfl).set' 6 _ rfl).set' 7 _ rfl).drew
    have hc10 : Chg (fun k => k = x) w9 ((((w9.setCell ⟨x, 5, none⟩ (.int .i64 (fI hn fr))).setCell ⟨x, 6, none⟩ (.int .i64 (tI hn fr c.ch))).setCell ⟨x, 7, none⟩ (.int .i64 (fI hn fr))).drew) := ((((Chg.refl (fun k => k = x) w9).setCell _ _ (fun _ => rfl)).setCell _ _ (fun _ => rfl)).setCell _ _ (fun _ => rfl)).drew
    generalize (((w9.setCell ⟨x, 5, none⟩ (.int .i64 (fI hn fr))).setCell ⟨x, 6, none⟩ (.int .i64 (tI hn fr c.ch))).setCell ⟨x, 7, none⟩ (.int .i64 (fI hn fr))).drew = w10 at *
    clear c0 c1 k5 k6 k7 f5 f6 f7 hx9 hp9 hK9
    go_wp2_with fail
    refine (scSlots_any w10 hx10).mono ?_; rintro r w11 ⟨rfl, n3, rfl⟩
    obtain ⟨fq, hv⟩ := slots_val (fI hn fr) (tI hn fr c.ch) x
    have HV : Hid _ := hv
    rw [hv]
    clear hv
    have hx11 := hx10.chgN n3
    have hc11 := hc10.trans ((Chg.refl (fun k => k = x) w10).drewN n3)
    generalize w10.drewN n3 = w11 at *
    have k16 := hx11.cell 16
    have f16 := hx11.free 16
    simp only [List.getElem?_cons_zero, List.getElem?_cons_succ] at k16
    have hb0 := fI_bound hn fr
    have hb1 := tI_bound hn fr c.ch
    by_cases hmore : tI hn fr c.ch < sI hn
    · have hd : decide (tI hn fr c.ch < sI hn) = true := decide_eq_true hmore
      have HM : Hid _ := hmore
      clear hmore
      go_wp2_with fail
      go_end0
      rw [show pcF = YPc.count from by rw [← HPF.out, if_pos HM.out]]
      have hx12 : Blk ((w11.setCell ⟨x, 16, none⟩ (.func (.func fq) #[.pointer (some ⟨x, 0, none⟩)] #[])).setCell ⟨x, 16, none⟩ (.func (.func 134) #[.pointer (some ⟨x, 0, none⟩)] #[])) x 147 (scL bm ⟨i, v, fr, cy, fI hn fr, tI hn fr c.ch, fI hn fr, w0, Ev.zero⟩ cp ap ((YPc.count).val x)) := (hx11.set' 16 (.func (.func fq) #[.pointer (some ⟨x, 0, none⟩)] #[]) rfl).set' 16 _ rfl
      have hc12 : Chg (fun k => k = x) w9 ((w11.setCell ⟨x, 16, none⟩ (.func (.func fq) #[.pointer (some ⟨x, 0, none⟩)] #[])).setCell ⟨x, 16, none⟩ (.func (.func 134) #[.pointer (some ⟨x, 0, none⟩)] #[])) := (hc11.setCell _ _ (fun _ => rfl)).setCell _ _ (fun _ => rfl)
      have hcw := hcw9.trans (hc12.mono (T := OwnB O bs bl) (fun k _ e => .inl (e ▸ xin)))
      exact ⟨rfl, ScAt.plain ucy ⟨num.1, hb0, hb1⟩ (fun e => by cases e) (grow_ok own hcw.size ls ll) (.inl xin) hx12 (fun e => by cases e) (fun e => by cases e), hs9.chg hc12 (Ne.symm lx.2.1) (Ne.symm lx.2.2), hcw⟩
    · have hd : decide (tI hn fr c.ch < sI hn) = false := decide_eq_false hmore
      have HM : Hid _ := hmore
      clear hmore
      go_wp2_with fail
      go_end0
      rw [show pcF = slotsPc (fI hn fr) (tI hn fr c.ch) from by rw [← HPF.out, if_neg HM.out]]
      have hx12 : Blk (w11.setCell ⟨x, 16, none⟩ (.func (.func fq) #[.pointer (some ⟨x, 0, none⟩)] #[])) x 147 (scL bm ⟨i, v, fr, cy, fI hn fr, tI hn fr c.ch, fI hn fr, w0, Ev.zero⟩ cp ap ((slotsPc (fI hn fr) (tI hn fr c.ch)).val x)) := by rw [HV.out]; exact hx11.set' 16 _ rfl
      have hc12 : Chg (fun k => k = x) w9 (w11.setCell ⟨x, 16, none⟩ (.func (.func fq) #[.pointer (some ⟨x, 0, none⟩)] #[])) := hc11.setCell _ _ (fun _ => rfl)
      have hcw := hcw9.trans (hc12.mono (T := OwnB O bs bl) (fun k _ e => .inl (e ▸ xin)))
      exact ⟨rfl, ScAt.plain ucy ⟨num.1, hb0, hb1⟩ slotsPc_slot (grow_ok own hcw.size ls ll) (.inl xin) hx12 slotsPc_ne.1 slotsPc_ne.2.1, hs9.chg hc12 (Ne.symm lx.2.1) (Ne.symm lx.2.2), hcw⟩

end Go.Proofs.YtapdpclgbpgklaaGreat
