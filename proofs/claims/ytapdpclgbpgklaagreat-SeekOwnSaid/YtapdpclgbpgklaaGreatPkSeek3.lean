/- A marker that looks for a task: its bag's next task, a packet that is put back, another one's deque: walked. -/
import Derived.Test.YtapdpclgbpgklaaGreatPkSeek2
namespace Go.Proofs.YtapdpclgbpgklaaGreat
open Go.RowKit

set_option maxRecDepth 8000 in
set_option maxHeartbeats 1600000 in
theorem skFirst_does {x bm bs bl B : Nat} {c : Cfg} {s : KS} {O : Nat → Prop} {mem : List Int} {n : Int} (w : World) (hg : Good c) (h : SkAt w x bm bs bl c s O) (hs : StoreAt w bs bl mem n) (hm : MapAt w B bm c) (hp : s.pc = .first) :
    Calls Tryz.prog 171 #[.pointer (some ⟨x, 0, none⟩), .pointer (some ⟨bs, 0, none⟩)] w fun r w' => r = .returned (.tuple #[]) ∧ SkAt w' x bm bs bl c (skStep c mem s).2 (Grow O w w') ∧ StoreAt w' bs bl (skStep c mem s).1 (cnt n) ∧ Chg (OwnB O bs bl) w w' := by
  obtain ⟨pc, i, bp, ba, bn, draw, task, found, dq, pk, vi, st⟩ := s
  simp only at hp
  subst hp
  obtain ⟨ut, act, own, xin, fst, ev, pv, hx, _⟩ := h
  simp only [KS.kv] at hx ut act fst
  simp only [skStep]
  have act := act (by decide)
  have fst := fst trivial
  have lx := own x xin
  obtain ⟨ls, ll⟩ := hs.lt
  have hV := mget_all hs.all (pTask c bp ba)
  generalize hv : mget mem (pTask c bp ba) = vv at *
  have HT : Hid (mget mem (pTask c bp ba) = vv) := hv
  clear hv
  have g0 := hx.cell 0
  have g2 := hx.cell 2
  have g3 := hx.cell 3
  simp only [List.getElem?_cons_zero, List.getElem?_cons_succ] at g0 g2 g3
  have hxd := hx.drew
  have d0 := hxd.cell 0
  have d2 := hxd.cell 2
  have d3 := hxd.cell 3
  simp only [List.getElem?_cons_zero, List.getElem?_cons_succ] at d0 d2 d3
  have yb : IntKind.i64.wrap (ba + 1) = ba + 1 := wrap_small (by omega) (by omega)
  go_enter Tryz.func171, Tryz.ntmps171
  go_wp2_with fail
  go_region_held3 (fun w' => w'.cell? ⟨x, 0, none⟩ = some (.pointer (some ⟨bm, 0, none⟩)) ∧ w'.cell? ⟨x, 2, none⟩ = some (.int .i64 bp) ∧ w'.cell? ⟨x, 3, none⟩ = some (.int .i64 ba))
    (first | exact ⟨g0, g2, g3⟩ | exact ⟨d0, d2, d3⟩ | exact ⟨k0, k2, k3⟩)
    (first
     | (go_at_call 112; refine (mTask_any bp ba _ hm.drew hg).mono ?_; rintro r wx ⟨rfl, rfl⟩)
     | (go_at_call 41; refine (load_any (pTask c bp ba) _ hs.drew).mono ?_; rintro r w2 ⟨rfl, hs2, hc2⟩
        rw [HT.out]
        have hx2 := hc2.blk hxd lx.2.1
        have k0 := hx2.cell 0
        have k2 := hx2.cell 2
        have k3 := hx2.cell 3
        have f3 := hx2.free 3
        simp only [List.getElem?_cons_zero, List.getElem?_cons_succ] at k0 k2 k3))
  all_goals
    go_wp2_with fail
    have hx3 : Blk (w2.setCell ⟨x, 3, none⟩ (.int .i64 (ba + 1))) x 166 (skL bm ⟨i, bp, ba + 1, bn, draw, task, found⟩ ev pv ((KPc.first).val x)) := hx2.set' 3 _ rfl
    have hc3 : Chg (fun k => k = x) w2 (w2.setCell ⟨x, 3, none⟩ (.int .i64 (ba + 1))) := (Chg.refl _ w2).setCell _ _ (fun _ => rfl)
    refine (kend_any vv _ hx3).mono ?_; rintro r w4 ⟨rfl, hx4, hc4⟩
    go_wp2_with fail
    go_end0
    have hcw : Chg (OwnB O bs bl) w w4 := ((((Chg.refl _ w).drew).trans (hc2.mono (fun _ _ e => .inr (.inl e)))).trans (hc3.mono (fun k _ e => .inl (e ▸ xin)))).trans (hc4.mono (fun k _ e => .inl (e ▸ xin)))
    exact ⟨rfl, SkAt.plain hV (fun e => absurd rfl e) (grow_ok own hcw.size ls ll) (.inl xin) (fun e => by cases e) hx4 (.inl rfl), (hs2.chg hc3 (Ne.symm lx.2.1) (Ne.symm lx.2.2)).chg hc4 (Ne.symm lx.2.1) (Ne.symm lx.2.2), hcw⟩

theorem PmAt.home2 {w w0 : World} {b bi bi' gt bm bs bl : Nat} {s : PM} {O : Nat → Prop} (h : PmAt w b bi' gt bm bs bl s) (h1 : b ≠ bi ∧ bi ≠ bs ∧ bi ≠ bl ∧ gt ≠ bi) (hO : O bi) (hb : bi' = bi ∨ w0.heap.size ≤ bi') {x : Nat} (hx : x ≠ bi ∧ x < w0.heap.size) : ∃ b2, PmAt w b b2 gt bm bs bl s ∧ Grow O w0 w b2 ∧ x ≠ b2 := by
  obtain ⟨b2, hp2, hb2⟩ := h.home h1
  refine ⟨b2, hp2, ?_, ?_⟩
  · rcases hb2 with rfl | ⟨rfl, hlt⟩
    · exact .inl hO
    · rcases hb with rfl | hb
      · exact .inl hO
      · exact .inr ⟨hb, hlt⟩
  · rcases hb2 with rfl | ⟨rfl, hlt⟩
    · exact hx.1
    · rcases hb with rfl | hb
      · exact hx.1
      · omega

theorem pmStep_tasks {c : Cfg} {mem : List Int} {s : PM} : (pmStep c mem s).2.tasks = s.tasks := by
  obtain ⟨pc, ts, j, p, x⟩ := s
  cases pc <;> simp only [pmStep, pmSpare, pmFill, pmMany, pmLast]
  case spare =>
    split
    · split <;> rfl
    · rfl
  case last => split <;> rfl

set_option maxRecDepth 8000 in
set_option maxHeartbeats 1600000 in
theorem skBack_does {x bm bs bl B : Nat} {c : Cfg} {s : KS} {O : Nat → Prop} {mem : List Int} {n : Int} (w : World) (hg : Good c) (h : SkAt w x bm bs bl c s O) (hs : StoreAt w bs bl mem n) (hm : MapAt w B bm c) (hB : B ≤ w.heap.size) (hO : ∀ k, O k → B ≤ k) (hBs : B ≤ bs) (hBl : B ≤ bl) (hp : s.pc = .back) :
    Calls Tryz.prog 173 #[.pointer (some ⟨x, 0, none⟩), .pointer (some ⟨bs, 0, none⟩)] w fun r w' => r = .returned (.tuple #[]) ∧ SkAt w' x bm bs bl c (skStep c mem s).2 (Grow O w w') ∧ StoreAt w' bs bl (skStep c mem s).1 (cnt n) ∧ Chg (OwnB O bs bl) w w' := by
  obtain ⟨pc, i, bp, ba, bn, draw, task, found, dq, pk, vi, st⟩ := s
  simp only at hp
  subst hp
  obtain ⟨ut, act, own, xin, _, ev, pv, hx, _, h2, _⟩ := h
  simp only [KS.kv] at hx ut act h2
  simp only [skStep]
  obtain ⟨hpf, hok, htn, b, bi, rfl, hpm, ob, obi, n1, n2⟩ := h2 (.inl trivial)
  have act := act (by decide)
  have lx := own x xin
  have lb := own b ob
  have lbi := own bi obi
  have xB := hO x xin
  have hbm := hm.cells.1
  obtain ⟨ls, ll⟩ := hs.lt
  have hap := hpm.ap
  have D := pstep_all w hg hpm hs hm (by omega) hok
  have hok2 := pmStep_ok (c := c) (mem := mem) hok
  have htn2 : (pmStep c mem pk).2.tasks = [] := by rw [pmStep_tasks]; exact htn
  rw [hpf] at D
  have nsx : ¬ PmB b bi bs bl x := by rintro (e | e | e | e); exact n1 e; exact n2 e; exact lx.2.1 e; exact lx.2.2 e
  have hmono : ∀ k, k < w.heap.size → PmB b bi bs bl k → OwnB O bs bl k := by
    rintro k _ (e | e | e | e)
    · exact .inl (e ▸ ob)
    · exact .inl (e ▸ obi)
    · exact .inr (.inl e)
    · exact .inr (.inr e)
  have HOK : Hid (PmOk (pmStep c mem pk).2 ∧ (pmStep c mem pk).2.tasks = []) := ⟨hok2, htn2⟩
  clear hok2 htn2 hok htn
  generalize pmStep c mem pk = rr at *
  obtain ⟨mem2, p2⟩ := rr
  simp only at D ⊢
  have g7 := hx.cell 7
  simp only [List.getElem?_cons_zero, List.getElem?_cons_succ] at g7
  cases hf : p2.pc.fin
  · simp only [Bool.false_eq_true, ↓reduceIte]
    rw [hf] at D
    go_enter Tryz.func173, Tryz.ntmps173
    go_wp2_with fail
    refine D.mono ?_; rintro r w2 ⟨rfl, ⟨bi', hp2, hbi⟩, hs2, hc2⟩
    have HB : Hid (bi' = bi ∨ w.heap.size ≤ bi') := hbi
    clear hbi
    go_wp2_with fail
    go_end0
    obtain ⟨b2, hp3, hG, hx2⟩ := hp2.home2 (bi := bi) (w0 := w) (O := O) ⟨hap.1, hap.2.2.2.1, hap.2.2.2.2.1, hap.2.2.2.2.2.2.1⟩ obi HB.out (x := x) ⟨n2, lx.1⟩
    exact ⟨rfl, ⟨ut, fun _ => act, grow_ok own hc2.size ls ll, .inl xin, fun e => (by cases e), ev, _, hc2.blk hx nsx, fun e => (by cases e), fun _ => ⟨hf, HOK.out.1, HOK.out.2, b, b2, rfl, hp3, .inl ob, hG, n1, hx2⟩, fun e => (by cases e), fun e => by cases e⟩, hs2, hc2.mono hmono⟩
  · simp only [↓reduceIte]
    rw [hf] at D
    clear hf HOK
    go_enter Tryz.func173, Tryz.ntmps173
    go_wp2_with fail
    refine D.mono ?_; rintro r w2 ⟨rfl, ⟨bi', hp2, hbi⟩, hs2, hc2⟩
    have hx2 := hc2.blk hx nsx
    have hcw2 := hc2.mono hmono
    have hm2 := hm.below (hcw2.ownBelow hB hO hBs hBl) (Nat.le_refl _)
    have z2 := hcw2.size
    have k0 := hx2.cell 0
    simp only [List.getElem?_cons_zero] at k0
    clear hbi hp2 D
    go_wp2_with fail
    refine (take_any w2 hs2 hm2 bm (by omega) (by omega) (by omega)).mono ?_; rintro r w5 ⟨pb, pbi, rfl, hp5, y1, y2, hk5⟩
    have hx5 := hk5.blk hx2
    have hs5 := hs2.kept hk5
    have z5 := hk5.size
    have k7 := hx5.cell 7
    have f7 := hx5.free 7
    have k10 := hx5.cell 10
    have f10 := hx5.free 10
    simp only [List.getElem?_cons_zero, List.getElem?_cons_succ] at k7 k10
    go_wp2_with fail
    go_end0
    have hc6 : Chg (fun k => k = x) w5 ((w5.setCell ⟨x, 7, none⟩ (.pointer (some ⟨pb, 0, none⟩))).setCell ⟨x, 10, none⟩ ((KPc.take).val x)) := ((Chg.refl (fun k => k = x) w5).setCell ⟨x, 7, none⟩ _ (fun _ => rfl)).setCell ⟨x, 10, none⟩ _ (fun _ => rfl)
    have hp6 := hp5.chg hc6 (show ¬ pb = x by omega) (show ¬ pbi = x by omega) (show ¬ bm = x by omega)
    have lb2 := hp6.blt
    have lbi2 := hp6.bilt trivial
    have hcw6 := (hcw2.trans (Chg.ofBelow hk5)).trans (hc6.mono (T := OwnB O bs bl) (fun k _ e => .inl (e ▸ xin)))
    exact ⟨rfl, ⟨ut, fun _ => act, grow_ok own hcw6.size ls ll, .inl xin, fun e => (by cases e), ev, _, (hx5.set' 7 _ rfl).set' 10 _ rfl, fun e => (by cases e), fun _ => ⟨rfl, ⟨fun e => (by cases e), fun e => by cases e⟩, rfl, pb, pbi, rfl, hp6, .inr ⟨by omega, lb2⟩, .inr ⟨by omega, lbi2⟩, by omega, by omega⟩, fun e => (by cases e), fun e => by cases e⟩, hs5.chg hc6 (Ne.symm lx.2.1) (Ne.symm lx.2.2), hcw6⟩

set_option maxRecDepth 8000 in
set_option maxHeartbeats 1600000 in
theorem skSteal_does {x bm bs bl : Nat} {c : Cfg} {s : KS} {O : Nat → Prop} {mem : List Int} {n : Int} (w : World) (h : SkAt w x bm bs bl c s O) (hs : StoreAt w bs bl mem n) (hp : s.pc = .steal) :
    Calls Tryz.prog 190 #[.pointer (some ⟨x, 0, none⟩), .pointer (some ⟨bs, 0, none⟩)] w fun r w' => r = .returned (.tuple #[]) ∧ SkAt w' x bm bs bl c (skStep c mem s).2 (Grow O w w') ∧ StoreAt w' bs bl (skStep c mem s).1 (cnt n) ∧ Chg (OwnB O bs bl) w w' := by
  obtain ⟨pc, i, bp, ba, bn, draw, task, found, dq, pk, vi, st⟩ := s
  simp only at hp
  subst hp
  obtain ⟨ut, act, own, xin, _, ev, pv, hx, _, _, _, h4⟩ := h
  simp only [KS.kv] at hx ut act h4
  simp only [skStep]
  obtain ⟨hdf, b, q1, q2, rfl, hd, ob, o1, o2, n1, n2, n3⟩ := h4 trivial
  have act := act (by decide)
  have lx := own x xin
  have lb := own b ob
  obtain ⟨ls, ll⟩ := hs.lt
  have D := ststep_any w hd hs lb.2.1 lb.2.2 hdf
  have nsx : ¬ DqB b bs bl x := by rintro (e | e | e); exact n1 e; exact lx.2.1 e; exact lx.2.2 e
  have hmono : ∀ k, k < w.heap.size → DqB b bs bl k → OwnB O bs bl k := by
    rintro k _ (e | e | e)
    · exact .inl (e ▸ ob)
    · exact .inr (.inl e)
    · exact .inr (.inr e)
  generalize stStep (endsOf c vi) mem st = rr at *
  obtain ⟨mem2, d2⟩ := rr
  simp only at D ⊢
  have g6 := hx.cell 6
  simp only [List.getElem?_cons_zero, List.getElem?_cons_succ] at g6
  cases hf : d2.pc.fin
  · simp only [Bool.false_eq_true, ↓reduceIte]
    rw [hf] at D
    go_enter Tryz.func190, Tryz.ntmps190
    go_wp2_with fail
    refine D.mono ?_; rintro r w2 ⟨rfl, hd2, hs2, hc2⟩
    go_wp2_with fail
    refine bodyPost_ret (results_none rfl _ _ _) rfl ?_
    exact ⟨rfl, ⟨ut, fun _ => act, grow_ok own hc2.size ls ll, .inl xin, fun e => (by cases e), _, pv, hc2.blk hx nsx, fun e => (by cases e), fun e => (by rcases e with e | e <;> cases e), fun e => (by cases e), fun _ => ⟨hf, b, q1, q2, rfl, hd2, .inl ob, .inl o1, .inl o2, n1, n2, n3⟩⟩, hs2, hc2.mono hmono⟩
  · simp only [↓reduceIte]
    have HF : Hid (d2.pc = .done) := tfin_iff.1 hf
    rw [hf] at D
    clear hf
    by_cases ho : d2.out = 1
    case' pos =>
      have HO1 : Hid (d2.out = 1) := ho
      rw [if_pos ho]
    case' neg =>
      have hob : (d2.out == 1) = false := by simpa using ho
      rw [if_neg ho]
    all_goals
      clear ho
      go_enter Tryz.func190, Tryz.ntmps190
      go_wp2_with fail
      refine D.mono ?_; rintro r w2 ⟨rfl, hd2, hs2, hc2⟩
      have hx2 := hc2.blk hx nsx
      have k6 := hx2.cell 6
      have k10 := hx2.cell 10
      have f10 := hx2.free 10
      simp only [List.getElem?_cons_zero, List.getElem?_cons_succ] at k6 k10
      go_wp2_with fail
      have hx3 : Blk (w2.setCell ⟨x, 10, none⟩ .nilFunc) x 166 (skL bm ⟨i, bp, ba, bn, draw, task, found⟩ (.pointer (some ⟨b, 0, none⟩)) pv .nilFunc) := hx2.set' 10 _ rfl
      have hc3 : Chg (fun k => k = x) w2 (w2.setCell ⟨x, 10, none⟩ .nilFunc) := (Chg.refl _ w2).setCell _ _ (fun _ => rfl)
      have hd3 := hd2.chg hc3 (show ¬ b = x by omega) (show ¬ q1 = x by omega) (show ¬ q2 = x by omega)
      have hs3 := hs2.chg hc3 (Ne.symm lx.2.1) (Ne.symm lx.2.2)
      generalize w2.setCell ⟨x, 10, none⟩ .nilFunc = w3 at *
      clear k6 k10 f10 hd2 hs2
      have k6 := hx3.cell 6
      simp only [List.getElem?_cons_zero, List.getElem?_cons_succ] at k6
      refine (stresult_any w3 hd3 HF.out).mono ?_; rintro r w4 ⟨rfl, hk4⟩
      have hcw4 : Chg (OwnB O bs bl) w w4 := ((hc2.mono hmono).trans (hc3.mono (fun k _ e => .inl (e ▸ xin)))).trans (Chg.ofBelow hk4)
    · go_wp2_with fail
      go_end0
      exact ⟨rfl, SkAt.plain ut (fun e => absurd rfl e) (grow_ok own hcw4.size ls ll) (.inl xin) (fun e => by cases e) (hk4.blk hx3) (.inl rfl), hs3.kept hk4, hcw4⟩
    · rw [HO1.out]
      go_wp2_with fail
      refine (kend_any d2.wd w4 (hk4.blk hx3)).mono ?_; rintro r w5 ⟨rfl, hx5, hc5⟩
      go_wp2_with fail
      go_end0
      have hcw : Chg (OwnB O bs bl) w w5 := hcw4.trans (hc5.mono (fun k _ e => .inl (e ▸ xin)))
      exact ⟨rfl, SkAt.plain hd3.ok.2.2 (fun e => absurd rfl e) (grow_ok own hcw.size ls ll) (.inl xin) (fun e => by cases e) hx5 (.inl rfl), (hs3.kept hk4).chg hc5 (Ne.symm lx.2.1) (Ne.symm lx.2.2), hcw⟩

end Go.Proofs.YtapdpclgbpgklaaGreat
