/- A marker that looks for a task: its own deque, its bag, a packet that is put back, another one's deque: walked. -/
import Derived.Test.YtapdpclgbpgklaaGreatPkSeek1
namespace Go.Proofs.YtapdpclgbpgklaaGreat
open Go.RowKit

/-- One step: memory, and the machine. -/
def skStep (c : Cfg) (mem : List Int) (s : KS) : List Int × KS :=
  match s.pc with
  | .done => (mem, s)
  | .own => ((dqStep (endsOf c s.i) mem s.dq).1,
      if (dqStep (endsOf c s.i) mem s.dq).2.pc.fin then
        (if (dqStep (endsOf c s.i) mem s.dq).2.out = 1 then endK { s with dq := (dqStep (endsOf c s.i) mem s.dq).2 } (dqStep (endsOf c s.i) mem s.dq).2.wd
         else unpackK c { s with dq := (dqStep (endsOf c s.i) mem s.dq).2 })
      else { s with dq := (dqStep (endsOf c s.i) mem s.dq).2 })
  | .first => (mem, endK { s with ba := s.ba + 1 } (mget mem (pTask c s.bp s.ba)))
  | .back => ((pmStep c mem s.pk).1, if (pmStep c mem s.pk).2.pc.fin then { s with pk := takePM, pc := .take } else { s with pk := (pmStep c mem s.pk).2 })
  | .take => ((pmStep c mem s.pk).1,
      if (pmStep c mem s.pk).2.pc.fin then
        (if (pmStep c mem s.pk).2.p ≠ 0 then { s with pk := (pmStep c mem s.pk).2, pc := .many }
         else if 0 ≤ victim c.mks s.i s.draw then { s with pk := (pmStep c mem s.pk).2, pc := .steal, vi := victim c.mks s.i s.draw, st := ⟨.stealTop, 0, 0, 0, 0⟩ }
         else { s with pk := (pmStep c mem s.pk).2, pc := .done })
      else { s with pk := (pmStep c mem s.pk).2 })
  | .many => (mem, unpackK c { s with bp := s.pk.p, ba := 0, bn := min (mget mem (pPack c s.pk.p 0)) 4 })
  | .steal => ((stStep (endsOf c s.vi) mem s.st).1,
      if (stStep (endsOf c s.vi) mem s.st).2.pc.fin then
        (if (stStep (endsOf c s.vi) mem s.st).2.out = 1 then endK { s with st := (stStep (endsOf c s.vi) mem s.st).2 } (stStep (endsOf c s.vi) mem s.st).2.wd
         else { s with st := (stStep (endsOf c s.vi) mem s.st).2, pc := .done })
      else { s with st := (stStep (endsOf c s.vi) mem s.st).2 })

theorem kend_any {x bm : Nat} {s : KV} {ev pv nx : Value} (t : Int) (w : World) (hx : Blk w x 166 (skL bm s ev pv nx)) :
    Calls Tryz.prog 148 #[.pointer (some ⟨x, 0, none⟩), .int .u64 t] w fun r w' => r = .returned (.tuple #[]) ∧ Blk w' x 166 (skL bm ⟨s.i, s.bp, s.ba, s.bn, s.draw, t, true⟩ ev pv .nilFunc) ∧ Chg (fun k => k = x) w w' := by
  have g8 := hx.cell 8
  have f8 := hx.free 8
  have g9 := hx.cell 9
  have f9 := hx.free 9
  have g10 := hx.cell 10
  have f10 := hx.free 10
  simp only [List.getElem?_cons_zero, List.getElem?_cons_succ] at g8 g9 g10
  go_enter Tryz.func148, Tryz.ntmps148
  go_wp2_with fail
  go_end0
  exact ⟨rfl, ((hx.set' 8 _ rfl).set' 9 _ rfl).set' 10 _ rfl, (((Chg.refl (fun k => k = x) w).setCell ⟨x, 8, none⟩ _ (fun _ => rfl)).setCell ⟨x, 9, none⟩ _ (fun _ => rfl)).setCell ⟨x, 10, none⟩ _ (fun _ => rfl)⟩

set_option maxRecDepth 8000 in
set_option maxHeartbeats 1600000 in
theorem skOwn_does {x bm bs bl B : Nat} {c : Cfg} {s : KS} {O : Nat → Prop} {mem : List Int} {n : Int} (w : World) (hg : Good c) (h : SkAt w x bm bs bl c s O) (hs : StoreAt w bs bl mem n) (hm : MapAt w B bm c) (hB : B ≤ w.heap.size) (hO : ∀ k, O k → B ≤ k) (hBs : B ≤ bs) (hBl : B ≤ bl) (hp : s.pc = .own) :
    Calls Tryz.prog 105 #[.pointer (some ⟨x, 0, none⟩), .pointer (some ⟨bs, 0, none⟩)] w fun r w' => r = .returned (.tuple #[]) ∧ SkAt w' x bm bs bl c (skStep c mem s).2 (Grow O w w') ∧ StoreAt w' bs bl (skStep c mem s).1 (cnt n) ∧ Chg (OwnB O bs bl) w w' := by
  obtain ⟨pc, i, bp, ba, bn, draw, task, found, dq, pk, vi, st⟩ := s
  simp only at hp
  subst hp
  obtain ⟨ut, act, own, xin, _, ev, pv, hx, h1, _⟩ := h
  simp only [KS.kv] at hx ut act h1
  simp only [skStep]
  obtain ⟨hdf, b, q1, q2, rfl, hd, ob, o1, o2, n1, n2, n3⟩ := h1 trivial
  have act := act (by decide)
  have lx := own x xin
  have lb := own b ob
  have xB := hO x xin
  obtain ⟨ls, ll⟩ := hs.lt
  have D := dstep_any w hd hs lb.2.1 lb.2.2 hdf
  have nsx : ¬ DqB b bs bl x := by rintro (e | e | e); exact n1 e; exact lx.2.1 e; exact lx.2.2 e
  have hmono : ∀ k, k < w.heap.size → DqB b bs bl k → OwnB O bs bl k := by
    rintro k _ (e | e | e)
    · exact .inl (e ▸ ob)
    · exact .inr (.inl e)
    · exact .inr (.inr e)
  generalize dqStep (endsOf c i) mem dq = rr at *
  obtain ⟨mem2, d2⟩ := rr
  simp only at D ⊢
  have g6 := hx.cell 6
  simp only [List.getElem?_cons_zero, List.getElem?_cons_succ] at g6
  cases hf : d2.pc.fin
  · simp only [Bool.false_eq_true, ↓reduceIte]
    rw [hf] at D
    go_enter Tryz.func105, Tryz.ntmps105
    go_wp2_with fail
    refine D.mono ?_; rintro r w2 ⟨rfl, hd2, hs2, hc2⟩
    go_wp2_with fail
    refine bodyPost_ret (results_none rfl _ _ _) rfl ?_
    exact ⟨rfl, ⟨ut, fun _ => act, grow_ok own hc2.size ls ll, .inl xin, fun e => (by cases e), _, pv, hc2.blk hx nsx, fun _ => ⟨hf, b, q1, q2, rfl, hd2, .inl ob, .inl o1, .inl o2, n1, n2, n3⟩, fun e => (by rcases e with e | e <;> cases e), fun e => (by cases e), fun e => by cases e⟩, hs2, hc2.mono hmono⟩
  · simp only [↓reduceIte]
    have HF : Hid (d2.pc = .done) := dfin_iff.1 hf
    rw [hf] at D
    clear hf
    by_cases ho : d2.out = 1
    · have HO1 : Hid (d2.out = 1) := ho
      rw [if_pos ho]
      clear ho
      go_enter Tryz.func105, Tryz.ntmps105
      go_wp2_with fail
      refine D.mono ?_; rintro r w2 ⟨rfl, hd2, hs2, hc2⟩
      have hx2 := hc2.blk hx nsx
      have k6 := hx2.cell 6
      simp only [List.getElem?_cons_zero, List.getElem?_cons_succ] at k6
      go_wp2_with fail
      refine (dresult_any w2 hd2 HF.out).mono ?_; rintro r w3 ⟨rfl, hk3⟩
      rw [HO1.out]
      go_wp2_with fail
      refine (kend_any d2.wd w3 (hk3.blk hx2)).mono ?_; rintro r w4 ⟨rfl, hx4, hc4⟩
      go_wp2_with fail
      refine bodyPost_ret (results_none rfl _ _ _) rfl ?_
      have hcw : Chg (OwnB O bs bl) w w4 := ((hc2.mono hmono).trans (Chg.ofBelow hk3)).trans (hc4.mono (fun k _ e => .inl (e ▸ xin)))
      exact ⟨rfl, SkAt.plain hd2.ok.2.2 (fun e => absurd rfl e) (grow_ok own hcw.size ls ll) (.inl xin) (fun e => by cases e) hx4 (.inl rfl), (hs2.kept hk3).chg hc4 (Ne.symm lx.2.1) (Ne.symm lx.2.2), hcw⟩
    · have hob : (d2.out == 1) = false := by simpa using ho
      rw [if_neg ho]
      have HW : Hid (∀ (w3 : World), Blk w3 x 166 (skL bm ⟨i, bp, ba, bn, draw, task, found⟩ (.pointer (some ⟨b, 0, none⟩)) pv ((KPc.own).val x)) → StoreAt w3 bs bl mem2 (cnt n) → MapAt w3 B bm c → B ≤ w3.heap.size → (∀ k, O k → k < w3.heap.size ∧ k ≠ bs ∧ k ≠ bl) → Calls Tryz.prog 149 #[.pointer (some ⟨x, 0, none⟩)] w3 fun r w' => r = .returned (.tuple #[]) ∧ SkAt w' x bm bs bl c (unpackK c ⟨.own, i, bp, ba, bn, draw, task, found, d2, pk, vi, st⟩) (Grow O w3 w') ∧ StoreAt w' bs bl mem2 (cnt n) ∧ Chg (OwnB O bs bl) w3 w') :=
        fun w3 hx3 hs3 hm3 hB3 own3 => unpack_does (s := ⟨.own, i, bp, ba, bn, draw, task, found, d2, pk, vi, st⟩) w3 hg hx3 ut act own3 xin hs3 hm3 hB3 hO hBs hBl
      clear ho
      generalize unpackK c ⟨.own, i, bp, ba, bn, draw, task, found, d2, pk, vi, st⟩ = s3 at *
      go_enter Tryz.func105, Tryz.ntmps105
      go_wp2_with fail
      refine D.mono ?_; rintro r w2 ⟨rfl, hd2, hs2, hc2⟩
      have hx2 := hc2.blk hx nsx
      have k6 := hx2.cell 6
      simp only [List.getElem?_cons_zero, List.getElem?_cons_succ] at k6
      go_wp2_with fail
      refine (dresult_any w2 hd2 HF.out).mono ?_; rintro r w3 ⟨rfl, hk3⟩
      have hcw3 : Chg (OwnB O bs bl) w w3 := (hc2.mono hmono).trans (Chg.ofBelow hk3)
      have z3 := hcw3.size
      have hm3 := hm.below (hcw3.ownBelow hB hO hBs hBl) (Nat.le_refl _)
      have own3 : ∀ k, O k → k < w3.heap.size ∧ k ≠ bs ∧ k ≠ bl := fun k hk => ⟨Nat.lt_of_lt_of_le (own k hk).1 z3, (own k hk).2⟩
      have hx3 := hk3.blk hx2
      have hs3 := hs2.kept hk3
      clear hm hs hx h1 hd D act hd2 hs2 hx2 hk3 hc2
      go_wp2_with fail
      refine (HW.out w3 hx3 hs3 hm3 (by omega) own3).mono ?_; rintro r w4 ⟨rfl, hk4, hs4, hc4⟩
      go_wp2_with fail
      go_end0
      have z4 := hc4.size
      exact ⟨rfl, hk4.more (fun k hk => by rcases hk with e | e; exact .inl e; exact .inr ⟨by omega, e.2⟩) (grow_ok own (Nat.le_trans z3 z4) ls ll), hs4, hcw3.trans hc4⟩

end Go.Proofs.YtapdpclgbpgklaaGreat
