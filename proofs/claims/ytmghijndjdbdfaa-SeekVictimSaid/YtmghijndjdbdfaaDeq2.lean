/- A marker's deque: its machine's step; what came of it; a push is made: walked. -/
import Derived.Test.YtmghijndjdbdfaaDeqP
namespace Go.Proofs.Ytmghijndjdbdfaa
open Go.RowKit

def DPc.fin : DPc → Bool
  | .done => true
  | _ => false

theorem dval_func {q : DPc} (b q1 q2 : Nat) (h : q.fin = false) : ∃ (f : FuncId) (x y : Array Value), q.val b q1 q2 = .func (.func f) x y := by
  cases q
  · cases h
  all_goals exact ⟨_, _, _, rfl⟩

theorem dval_done {q : DPc} (b q1 q2 : Nat) (h : q.fin = true) : q.val b q1 q2 = .nilFunc := by
  cases q
  · rfl
  all_goals cases h

theorem dstepDone {b q1 q2 : Nat} {e : DEnds} {d : DQ} (w : World) (sp : Value) (h : DqAt w b q1 q2 e d) (hp : d.pc = .done) :
    Calls Try.prog 61 #[.pointer (some ⟨b, 0, none⟩), sp] w fun r w' => r = .returned (.bool true) ∧ w = w' := by
  have hb := h.blk
  rw [hp] at hb
  have g4 := hb.cell 4
  simp only [List.getElem?_cons_zero, List.getElem?_cons_succ] at g4
  have hn0 := func_eql0
  simp only [DPc.val] at g4
  go_enter Try.func61, Try.ntmps61
  go_wp2_with fail
  go_ret
  exact ⟨rfl, rfl⟩

set_option maxRecDepth 8000 in
theorem dstep_any {b q1 q2 bs bl : Nat} {e : DEnds} {d : DQ} {mem : List Int} {n : Int} (w : World) (h : DqAt w b q1 q2 e d) (hs : StoreAt w bs bl mem n) (h1 : b ≠ bs) (h2 : b ≠ bl) (hp : d.pc.fin = false) :
    Calls Try.prog 61 #[.pointer (some ⟨b, 0, none⟩), .pointer (some ⟨bs, 0, none⟩)] w fun r w' => r = .returned (.bool (dqStep e mem d).2.pc.fin) ∧ DqAt w' b q1 q2 e (dqStep e mem d).2 ∧ StoreAt w' bs bl (dqStep e mem d).1 (cnt n) ∧ Chg (DqB b bs bl) w w' := by
  have g4 := h.blk.cell 4
  simp only [List.getElem?_cons_zero, List.getElem?_cons_succ] at g4
  have hn0 := func_eql0
  have hn1 := func_eql
  cases hq : d.pc
  case done => rw [hq] at hp; cases hp
  case pushBottom =>
    have D := dqBegun_does w h hs h1 h2 hq
    rw [hq] at g4
    simp only [DPc.val] at g4
    generalize dqStep e mem d = rr at *
    clear h
    go_enter Try.func61, Try.ntmps61
    go_wp2_with fail
    refine D.mono ?_; rintro r w2 ⟨rfl, hd2, hs2, hc2⟩
    have k4 := hd2.blk.cell 4
    simp only [List.getElem?_cons_zero, List.getElem?_cons_succ] at k4
    cases hf : rr.2.pc.fin
    · obtain ⟨f, x, y, hv⟩ := dval_func b q1 q2 hf
      rw [hv] at k4
      go_wp2_with fail
      go_ret
      exact ⟨ret_bool hf.symm, hd2, hs2, hc2⟩
    · rw [dval_done b q1 q2 hf] at k4
      go_wp2_with fail
      go_ret
      exact ⟨ret_bool hf.symm, hd2, hs2, hc2⟩
  case pushTop =>
    have D := dqTop_does w h hs h1 h2 hq
    rw [hq] at g4
    simp only [DPc.val] at g4
    generalize dqStep e mem d = rr at *
    clear h
    go_enter Try.func61, Try.ntmps61
    go_wp2_with fail
    refine D.mono ?_; rintro r w2 ⟨rfl, hd2, hs2, hc2⟩
    have k4 := hd2.blk.cell 4
    simp only [List.getElem?_cons_zero, List.getElem?_cons_succ] at k4
    cases hf : rr.2.pc.fin
    · obtain ⟨f, x, y, hv⟩ := dval_func b q1 q2 hf
      rw [hv] at k4
      go_wp2_with fail
      go_ret
      exact ⟨ret_bool hf.symm, hd2, hs2, hc2⟩
    · rw [dval_done b q1 q2 hf] at k4
      go_wp2_with fail
      go_ret
      exact ⟨ret_bool hf.symm, hd2, hs2, hc2⟩
  case pushEntry =>
    have D := dqEntry_does w h hs h1 h2 hq
    rw [hq] at g4
    simp only [DPc.val] at g4
    generalize dqStep e mem d = rr at *
    clear h
    go_enter Try.func61, Try.ntmps61
    go_wp2_with fail
    refine D.mono ?_; rintro r w2 ⟨rfl, hd2, hs2, hc2⟩
    have k4 := hd2.blk.cell 4
    simp only [List.getElem?_cons_zero, List.getElem?_cons_succ] at k4
    cases hf : rr.2.pc.fin
    · obtain ⟨f, x, y, hv⟩ := dval_func b q1 q2 hf
      rw [hv] at k4
      go_wp2_with fail
      go_ret
      exact ⟨ret_bool hf.symm, hd2, hs2, hc2⟩
    · rw [dval_done b q1 q2 hf] at k4
      go_wp2_with fail
      go_ret
      exact ⟨ret_bool hf.symm, hd2, hs2, hc2⟩
  case pushEnd =>
    have D := dqEnd_does w h hs h1 h2 hq
    rw [hq] at g4
    simp only [DPc.val] at g4
    generalize dqStep e mem d = rr at *
    clear h
    go_enter Try.func61, Try.ntmps61
    go_wp2_with fail
    refine D.mono ?_; rintro r w2 ⟨rfl, hd2, hs2, hc2⟩
    have k4 := hd2.blk.cell 4
    simp only [List.getElem?_cons_zero, List.getElem?_cons_succ] at k4
    cases hf : rr.2.pc.fin
    · obtain ⟨f, x, y, hv⟩ := dval_func b q1 q2 hf
      rw [hv] at k4
      go_wp2_with fail
      go_ret
      exact ⟨ret_bool hf.symm, hd2, hs2, hc2⟩
    · rw [dval_done b q1 q2 hf] at k4
      go_wp2_with fail
      go_ret
      exact ⟨ret_bool hf.symm, hd2, hs2, hc2⟩
  case popBottom =>
    have D := dqPopBegun_does w h hs h1 h2 hq
    rw [hq] at g4
    simp only [DPc.val] at g4
    generalize dqStep e mem d = rr at *
    clear h
    go_enter Try.func61, Try.ntmps61
    go_wp2_with fail
    refine D.mono ?_; rintro r w2 ⟨rfl, hd2, hs2, hc2⟩
    have k4 := hd2.blk.cell 4
    simp only [List.getElem?_cons_zero, List.getElem?_cons_succ] at k4
    cases hf : rr.2.pc.fin
    · obtain ⟨f, x, y, hv⟩ := dval_func b q1 q2 hf
      rw [hv] at k4
      go_wp2_with fail
      go_ret
      exact ⟨ret_bool hf.symm, hd2, hs2, hc2⟩
    · rw [dval_done b q1 q2 hf] at k4
      go_wp2_with fail
      go_ret
      exact ⟨ret_bool hf.symm, hd2, hs2, hc2⟩
  case popDown =>
    have D := dqDown_does w h hs h1 h2 hq
    rw [hq] at g4
    simp only [DPc.val] at g4
    generalize dqStep e mem d = rr at *
    clear h
    go_enter Try.func61, Try.ntmps61
    go_wp2_with fail
    refine D.mono ?_; rintro r w2 ⟨rfl, hd2, hs2, hc2⟩
    have k4 := hd2.blk.cell 4
    simp only [List.getElem?_cons_zero, List.getElem?_cons_succ] at k4
    cases hf : rr.2.pc.fin
    · obtain ⟨f, x, y, hv⟩ := dval_func b q1 q2 hf
      rw [hv] at k4
      go_wp2_with fail
      go_ret
      exact ⟨ret_bool hf.symm, hd2, hs2, hc2⟩
    · rw [dval_done b q1 q2 hf] at k4
      go_wp2_with fail
      go_ret
      exact ⟨ret_bool hf.symm, hd2, hs2, hc2⟩
  case popTop =>
    have D := dqPopTop_does w h hs h1 h2 hq
    rw [hq] at g4
    simp only [DPc.val] at g4
    generalize dqStep e mem d = rr at *
    clear h
    go_enter Try.func61, Try.ntmps61
    go_wp2_with fail
    refine D.mono ?_; rintro r w2 ⟨rfl, hd2, hs2, hc2⟩
    have k4 := hd2.blk.cell 4
    simp only [List.getElem?_cons_zero, List.getElem?_cons_succ] at k4
    cases hf : rr.2.pc.fin
    · obtain ⟨f, x, y, hv⟩ := dval_func b q1 q2 hf
      rw [hv] at k4
      go_wp2_with fail
      go_ret
      exact ⟨ret_bool hf.symm, hd2, hs2, hc2⟩
    · rw [dval_done b q1 q2 hf] at k4
      go_wp2_with fail
      go_ret
      exact ⟨ret_bool hf.symm, hd2, hs2, hc2⟩
  case popEntry =>
    have D := dqPopEntry_does w h hs h1 h2 hq
    rw [hq] at g4
    simp only [DPc.val] at g4
    generalize dqStep e mem d = rr at *
    clear h
    go_enter Try.func61, Try.ntmps61
    go_wp2_with fail
    refine D.mono ?_; rintro r w2 ⟨rfl, hd2, hs2, hc2⟩
    have k4 := hd2.blk.cell 4
    simp only [List.getElem?_cons_zero, List.getElem?_cons_succ] at k4
    cases hf : rr.2.pc.fin
    · obtain ⟨f, x, y, hv⟩ := dval_func b q1 q2 hf
      rw [hv] at k4
      go_wp2_with fail
      go_ret
      exact ⟨ret_bool hf.symm, hd2, hs2, hc2⟩
    · rw [dval_done b q1 q2 hf] at k4
      go_wp2_with fail
      go_ret
      exact ⟨ret_bool hf.symm, hd2, hs2, hc2⟩
  case popSwap =>
    have D := dqSwap_does w h hs h1 h2 hq
    rw [hq] at g4
    simp only [DPc.val] at g4
    generalize dqStep e mem d = rr at *
    clear h
    go_enter Try.func61, Try.ntmps61
    go_wp2_with fail
    refine D.mono ?_; rintro r w2 ⟨rfl, hd2, hs2, hc2⟩
    have k4 := hd2.blk.cell 4
    simp only [List.getElem?_cons_zero, List.getElem?_cons_succ] at k4
    cases hf : rr.2.pc.fin
    · obtain ⟨f, x, y, hv⟩ := dval_func b q1 q2 hf
      rw [hv] at k4
      go_wp2_with fail
      go_ret
      exact ⟨ret_bool hf.symm, hd2, hs2, hc2⟩
    · rw [dval_done b q1 q2 hf] at k4
      go_wp2_with fail
      go_ret
      exact ⟨ret_bool hf.symm, hd2, hs2, hc2⟩
  case popBack =>
    have D := dqBack_does w h hs h1 h2 hq
    rw [hq] at g4
    simp only [DPc.val] at g4
    generalize dqStep e mem d = rr at *
    clear h
    go_enter Try.func61, Try.ntmps61
    go_wp2_with fail
    refine D.mono ?_; rintro r w2 ⟨rfl, hd2, hs2, hc2⟩
    have k4 := hd2.blk.cell 4
    simp only [List.getElem?_cons_zero, List.getElem?_cons_succ] at k4
    cases hf : rr.2.pc.fin
    · obtain ⟨f, x, y, hv⟩ := dval_func b q1 q2 hf
      rw [hv] at k4
      go_wp2_with fail
      go_ret
      exact ⟨ret_bool hf.symm, hd2, hs2, hc2⟩
    · rw [dval_done b q1 q2 hf] at k4
      go_wp2_with fail
      go_ret
      exact ⟨ret_bool hf.symm, hd2, hs2, hc2⟩

/-- What came of a machine that is finished. -/
theorem dresult_any {b q1 q2 : Nat} {e : DEnds} {d : DQ} (w : World) (h : DqAt w b q1 q2 e d) (hp : d.pc = .done) :
    Calls Try.prog 62 #[.pointer (some ⟨b, 0, none⟩)] w fun r w' => r = .returned (.tuple #[.int .i64 d.out, .int .u64 d.wd]) ∧ Kept w w' := by
  have hb := h.blk
  rw [hp] at hb
  have g4 := hb.cell 4
  have g7 := hb.cell 7
  have g8 := hb.cell 8
  simp only [List.getElem?_cons_zero, List.getElem?_cons_succ] at g4 g7 g8
  have hn0 := func_neq0
  simp only [DPc.val] at g4
  go_enter Try.func62, Try.ntmps62
  go_wp2_with fail
  go_region_held3 (fun w' => w'.cell? ⟨b, 8, none⟩ = some (.int .i64 d.out) ∧ w'.cell? ⟨b, 7, none⟩ = some (.int .u64 d.wd)) (first | exact ⟨g8, g7⟩) (fail)
  go_wp2_with fail
  go_ret2
  exact ⟨rfl, (Below.refl _ _).drew⟩

end Go.Proofs.Ytmghijndjdbdfaa
