/- A packet's machine: its step, its packet: walked. -/
import Derived.Test.YtchlbdfapgeebaaPack2
namespace Go.Proofs.Ytchlbdfapgeebaa
open Go.RowKit

theorem pval_func {q : PPc} (b : Nat) (h : q.fin = false) : ∃ f : FuncId, q.val b = .func (.func f) #[.pointer (some ⟨b, 0, none⟩)] #[] := by
  cases q
  · cases h
  all_goals exact ⟨_, rfl⟩

theorem pval_done {q : PPc} (b : Nat) (h : q.fin = true) : q.val b = .nilFunc := by
  cases q
  · rfl
  all_goals cases h

theorem mPacket_any {b bi gt bm bs bl : Nat} {s : PM} (w : World) (h : PmAt w b bi gt bm bs bl s) :
    Calls Try.prog 14 #[.pointer (some ⟨b, 0, none⟩)] w fun e w' => e = .returned (.int .i64 (if s.pc.fin then s.p else 0)) ∧ w = w' := by
  obtain ⟨_, _, _, _, tv, iv, hb, _, _⟩ := h
  have g3 := hb.cell 3
  have g5 := hb.cell 5
  simp only [List.getElem?_cons_zero, List.getElem?_cons_succ] at g3 g5
  have hn0 := func_neq0
  have hn1 := func_neq
  cases hf : s.pc.fin
  · obtain ⟨f, hv⟩ := pval_func b hf
    rw [hv] at g5
    simp only [Bool.false_eq_true, if_false]
    go_enter Try.func14, Try.ntmps14
    go_wp2_with fail
    go_ret
    exact ⟨rfl, rfl⟩
  · rw [pval_done b hf] at g5
    simp only [if_true]
    go_enter Try.func14, Try.ntmps14
    go_wp2_with fail
    go_ret
    exact ⟨rfl, rfl⟩

/-- One step of a packet's machine. -/
def pmStep (c : Cfg) (mem : List Int) (s : PM) : List Int × PM :=
  match s.pc with
  | .done => (mem, s)
  | .spare => pmSpare c mem s
  | .fill => pmFill c mem s
  | .many => pmMany c mem s
  | .last => pmLast c mem s

set_option maxRecDepth 8000 in
theorem pstep_any {b bi gt bm bs bl B : Nat} {c : Cfg} {s : PM} {mem : List Int} {n : Int} (w : World) (hg : Good c) (h : PmAt w b bi gt bm bs bl s) (hs : StoreAt w bs bl mem n) (hm : MapAt w B bm c) (hlt : gt < w.heap.size) (hfl : s.pc = .fill → s.j < s.tasks.length) (hp : s.pc.fin = false) :
    Calls Try.prog 13 #[.pointer (some ⟨b, 0, none⟩), .pointer (some ⟨bs, 0, none⟩)] w fun e w' => e = .returned (.bool (pmStep c mem s).2.pc.fin) ∧
      (∃ bi', PmAt w' b bi' gt bm bs bl (pmStep c mem s).2 ∧ (bi' = bi ∨ w.heap.size ≤ bi')) ∧ StoreAt w' bs bl (pmStep c mem s).1 (cnt n) ∧ Chg (PmB b bi bs bl) w w' := by
  obtain ⟨tv, iv, hb, _, _⟩ := h.ex
  have g5 := hb.cell 5
  simp only [List.getElem?_cons_zero, List.getElem?_cons_succ] at g5
  have hn0 := func_eql0
  have hn1 := func_eql
  clear hb
  cases hq : s.pc
  case done => rw [hq] at hp; cases hp
  case spare =>
    have D := spare_does w hg h hs hm hq hlt
    rw [show pmStep c mem s = pmSpare c mem s from by unfold pmStep; rw [hq]]
    generalize pmSpare c mem s = r at *
    rw [hq] at g5
    simp only [PPc.val] at g5
    go_enter Try.func13, Try.ntmps13
    go_wp2_with fail
    refine D.mono ?_; rintro e w2 ⟨rfl, ⟨bi2, h2, hbi⟩, hs2, hc2⟩
    obtain ⟨t2, i2, hb2, _, _⟩ := h2.ex
    have k5 := hb2.cell 5
    simp only [List.getElem?_cons_zero, List.getElem?_cons_succ] at k5
    cases hf : r.2.pc.fin
    · obtain ⟨f, hv⟩ := pval_func b hf
      rw [hv] at k5
      go_wp2_with fail
      go_ret
      exact ⟨ret_bool hf.symm, ⟨bi2, h2, hbi⟩, hs2, hc2⟩
    · rw [pval_done b hf] at k5
      go_wp2_with fail
      go_ret
      exact ⟨ret_bool hf.symm, ⟨bi2, h2, hbi⟩, hs2, hc2⟩
  case fill =>
    have D := fill_does w hg h hs hm hq (hfl hq)
    rw [show pmStep c mem s = pmFill c mem s from by unfold pmStep; rw [hq]]
    generalize pmFill c mem s = r at *
    rw [hq] at g5
    simp only [PPc.val] at g5
    go_enter Try.func13, Try.ntmps13
    go_wp2_with fail
    refine D.mono ?_; rintro e w2 ⟨rfl, h2, hs2, hc2⟩
    obtain ⟨t2, i2, hb2, _, _⟩ := h2.ex
    have k5 := hb2.cell 5
    simp only [List.getElem?_cons_zero, List.getElem?_cons_succ] at k5
    cases hf : r.2.pc.fin
    · obtain ⟨f, hv⟩ := pval_func b hf
      rw [hv] at k5
      go_wp2_with fail
      go_ret
      exact ⟨ret_bool hf.symm, ⟨bi, h2, .inl rfl⟩, hs2, hc2⟩
    · rw [pval_done b hf] at k5
      go_wp2_with fail
      go_ret
      exact ⟨ret_bool hf.symm, ⟨bi, h2, .inl rfl⟩, hs2, hc2⟩
  case many =>
    have D := many_does w hg h hs hm hq hlt
    rw [show pmStep c mem s = pmMany c mem s from by unfold pmStep; rw [hq]]
    generalize pmMany c mem s = r at *
    rw [hq] at g5
    simp only [PPc.val] at g5
    go_enter Try.func13, Try.ntmps13
    go_wp2_with fail
    refine D.mono ?_; rintro e w2 ⟨rfl, ⟨bi2, h2, hbi⟩, hs2, hc2⟩
    obtain ⟨t2, i2, hb2, _, _⟩ := h2.ex
    have k5 := hb2.cell 5
    simp only [List.getElem?_cons_zero, List.getElem?_cons_succ] at k5
    cases hf : r.2.pc.fin
    · obtain ⟨f, hv⟩ := pval_func b hf
      rw [hv] at k5
      go_wp2_with fail
      go_ret
      exact ⟨ret_bool hf.symm, ⟨bi2, h2, .inr hbi⟩, hs2, hc2⟩
    · rw [pval_done b hf] at k5
      go_wp2_with fail
      go_ret
      exact ⟨ret_bool hf.symm, ⟨bi2, h2, .inr hbi⟩, hs2, hc2⟩
  case last =>
    have D := last_does w hg h hs hm hq
    rw [show pmStep c mem s = pmLast c mem s from by unfold pmStep; rw [hq]]
    generalize pmLast c mem s = r at *
    rw [hq] at g5
    simp only [PPc.val] at g5
    go_enter Try.func13, Try.ntmps13
    go_wp2_with fail
    refine D.mono ?_; rintro e w2 ⟨rfl, h2, hs2, hc2⟩
    obtain ⟨t2, i2, hb2, _, _⟩ := h2.ex
    have k5 := hb2.cell 5
    simp only [List.getElem?_cons_zero, List.getElem?_cons_succ] at k5
    cases hf : r.2.pc.fin
    · obtain ⟨f, hv⟩ := pval_func b hf
      rw [hv] at k5
      go_wp2_with fail
      go_ret
      exact ⟨ret_bool hf.symm, ⟨bi, h2, .inl rfl⟩, hs2, hc2⟩
    · rw [pval_done b hf] at k5
      go_wp2_with fail
      go_ret
      exact ⟨ret_bool hf.symm, ⟨bi, h2, .inl rfl⟩, hs2, hc2⟩

end Go.Proofs.Ytchlbdfapgeebaa
