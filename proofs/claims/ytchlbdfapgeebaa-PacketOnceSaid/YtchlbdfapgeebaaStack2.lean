/- A stack's machine: its step; how it is made: walked. -/
import Derived.Test.YtchlbdfapgeebaaStack
namespace Go.Proofs.Ytchlbdfapgeebaa
open Go.RowKit

theorem keepSet {w : World} {a b : Addr} {u v : Value} (h : w.cell? a = some v) (hne : b ≠ a) : (w.setCell b u).cell? a = some v := by
  have := keepCell (u := u) h hne
  exact this

/-- Is it finished? -/
def SPc.fin : SPc → Bool
  | .done => true
  | _ => false

theorem func_eql (fn : Fn) (first captured : Array Value) (w : World) : (binOp .eql 66 (.func fn first captured) .nilFunc).run Try.prog w = .ok (.bool false) w := by kernel_rfl
theorem func_eql0 (w : World) : (binOp .eql 66 .nilFunc .nilFunc).run Try.prog w = .ok (.bool true) w := by kernel_rfl
theorem func_neq (fn : Fn) (first captured : Array Value) (w : World) : (binOp .neq 66 (.func fn first captured) .nilFunc).run Try.prog w = .ok (.bool true) w := by kernel_rfl
theorem func_neq0 (w : World) : (binOp .neq 66 .nilFunc .nilFunc).run Try.prog w = .ok (.bool false) w := by kernel_rfl

theorem fin_eql (b : Nat) (q : SPc) (W : World) : (binOp .eql 66 (q.val b) .nilFunc).run Try.prog W = .ok (.bool q.fin) W := by
  cases q
  · exact func_eql0 W
  all_goals exact func_eql _ _ _ W

theorem fin_neq (b : Nat) (q : SPc) (W : World) : (binOp .neq 66 (q.val b) .nilFunc).run Try.prog W = .ok (.bool (!q.fin)) W := by
  cases q
  · exact func_neq0 W
  all_goals exact func_neq _ _ _ W

theorem val_func {q : SPc} (b : Nat) (h : q.fin = false) : ∃ f : FuncId, q.val b = .func (.func f) #[.pointer (some ⟨b, 0, none⟩)] #[] := by
  cases q
  · cases h
  all_goals exact ⟨_, rfl⟩

theorem val_done {q : SPc} (b : Nat) (h : q.fin = true) : q.val b = .nilFunc := by
  cases q
  · rfl
  all_goals cases h

theorem item_any {b bm : Nat} {fl : FuncId} {s : SM} (w : World) (hsm : SmAt w b fl bm s) :
    Calls Try.prog 54 #[.pointer (some ⟨b, 0, none⟩)] w fun e w' => e = .returned (.int .i64 (if s.pc.fin then s.item else 0)) ∧ w = w' := by
  obtain ⟨⟨⟨hi0, hi1⟩, _, _⟩, tries, hb⟩ := hsm
  have g2 := hb.cell 2
  have g4 := hb.cell 4
  simp only [List.getElem?_cons_zero, List.getElem?_cons_succ] at g2 g4
  have hn0 := func_neq0
  have hn1 := func_neq
  cases hf : s.pc.fin
  · obtain ⟨f, hv⟩ := val_func b hf
    rw [hv] at g4
    simp only [Bool.false_eq_true, if_false]
    go_enter Try.func54, Try.ntmps54
    go_wp2_with fail
    go_ret
    exact ⟨rfl, rfl⟩
  · rw [val_done b hf] at g4
    simp only [if_true]
    go_enter Try.func54, Try.ntmps54
    go_wp2_with fail
    go_ret
    exact ⟨rfl, rfl⟩

theorem stepDone {b bm : Nat} {fl : FuncId} {s : SM} (w : World) (sp : Option Addr) (hsm : SmAt w b fl bm s) (hp : s.pc = .done) :
    Calls Try.prog 86 #[.pointer (some ⟨b, 0, none⟩), .pointer sp] w fun e w' => e = .returned (.bool true) ∧ w = w' := by
  obtain ⟨_, tries, hb⟩ := hsm
  rw [hp] at hb
  have g4 := hb.cell 4
  simp only [List.getElem?_cons_zero, List.getElem?_cons_succ] at g4
  have hn : ∀ W, (binOp .eql 66 .nilFunc .nilFunc).run Try.prog W = .ok (.bool true) W := fun W => fin_eql b .done W
  simp only [SPc.val] at g4
  go_enter Try.func86, Try.ntmps86
  go_wp2_with fail
  go_ret
  exact ⟨rfl, rfl⟩

theorem stepNil (w : World) (sp : Value) :
    Calls Try.prog 86 #[.pointer none, sp] w fun e w' => e = .returned (.bool true) ∧ w = w' := by
  go_enter Try.func86, Try.ntmps86
  go_wp2_with fail
  go_ret
  exact ⟨rfl, rfl⟩

/-- The end of a step: is it finished? -/
theorem step_tail (q : SPc) : q.fin = decide (q = .done) := by cases q <;> rfl

set_option maxRecDepth 8000 in
theorem step_any {b bs bl B bm : Nat} {c : Cfg} {s : SM} {mem : List Int} {n : Int} (w : World) (hg : Good c) (h1 : b ≠ bs) (h2 : b ≠ bl) (hsm : SmAt w b 28 bm s) (hs : StoreAt w bs bl mem n) (hm : MapAt w B bm c) (hp : s.pc.fin = false) :
    Calls Try.prog 86 #[.pointer (some ⟨b, 0, none⟩), .pointer (some ⟨bs, 0, none⟩)] w fun e w' => e = .returned (.bool (smStep (fun p => pPack c p 1) mem s).2.pc.fin) ∧
      SmAt w' b 28 bm (smStep (fun p => pPack c p 1) mem s).2 ∧ StoreAt w' bs bl (smStep (fun p => pPack c p 1) mem s).1 (cnt n) ∧ Chg (StB b bs bl) w w' := by
  obtain ⟨hok, tries, hb⟩ := id hsm
  have g4 := hb.cell 4
  simp only [List.getElem?_cons_zero, List.getElem?_cons_succ] at g4
  have hn0 := func_eql0
  have hn1 := func_eql
  have D : ∀ f : FuncId, StepDoes f b bs bl B bm c 28 (fun p => pPack c p 1) s → Calls Try.prog f #[.pointer (some ⟨b, 0, none⟩), .pointer (some ⟨bs, 0, none⟩)] w fun e w' => e = .returned (.tuple #[]) ∧
      SmAt w' b 28 bm (smStep (fun p => pPack c p 1) mem s).2 ∧ StoreAt w' bs bl (smStep (fun p => pPack c p 1) mem s).1 (cnt n) ∧ Chg (StB b bs bl) w w' := fun f h => h mem n w hsm hs hm
  generalize hr : smStep (fun p => pPack c p 1) mem s = r at *
  obtain ⟨mem2, s2⟩ := r
  have E : ∃ f : FuncId, s.pc.val b = .func (.func f) #[.pointer (some ⟨b, 0, none⟩)] #[] ∧ True := by
    obtain ⟨f, hf⟩ := val_func b hp
    exact ⟨f, hf, trivial⟩
  clear hsm hm
  cases hq : s.pc
  case done => rw [hq] at hp; cases hp
  case pushHead =>
    have D1 := D _ (pushHead_does h1 h2 hq)
    rw [hq] at g4
    simp only [SPc.val] at g4
    clear D E hb hr
    go_enter Try.func86, Try.ntmps86
    go_wp2_with fail
    refine D1.mono ?_; rintro e w2 ⟨rfl, hsm2, hs2, hc2⟩
    obtain ⟨hok2, t2, hb2⟩ := id hsm2
    have k4 := hb2.cell 4
    simp only [List.getElem?_cons_zero, List.getElem?_cons_succ] at k4
    cases hf : s2.pc.fin
    · obtain ⟨f, hv⟩ := val_func b hf
      rw [hv] at k4
      go_wp2_with fail
      go_ret
      exact ⟨ret_bool hf.symm, hsm2, hs2, hc2⟩
    · rw [val_done b hf] at k4
      go_wp2_with fail
      go_ret
      exact ⟨ret_bool hf.symm, hsm2, hs2, hc2⟩
  case pushLink =>
    have D1 := D _ (pushLink_does hg h1 h2 hq)
    rw [hq] at g4
    simp only [SPc.val] at g4
    clear D E hb hr
    go_enter Try.func86, Try.ntmps86
    go_wp2_with fail
    refine D1.mono ?_; rintro e w2 ⟨rfl, hsm2, hs2, hc2⟩
    obtain ⟨hok2, t2, hb2⟩ := id hsm2
    have k4 := hb2.cell 4
    simp only [List.getElem?_cons_zero, List.getElem?_cons_succ] at k4
    cases hf : s2.pc.fin
    · obtain ⟨f, hv⟩ := val_func b hf
      rw [hv] at k4
      go_wp2_with fail
      go_ret
      exact ⟨ret_bool hf.symm, hsm2, hs2, hc2⟩
    · rw [val_done b hf] at k4
      go_wp2_with fail
      go_ret
      exact ⟨ret_bool hf.symm, hsm2, hs2, hc2⟩
  case pushSwap =>
    have D1 := D _ (pushSwap_does h1 h2 hq)
    rw [hq] at g4
    simp only [SPc.val] at g4
    clear D E hb hr
    go_enter Try.func86, Try.ntmps86
    go_wp2_with fail
    refine D1.mono ?_; rintro e w2 ⟨rfl, hsm2, hs2, hc2⟩
    obtain ⟨hok2, t2, hb2⟩ := id hsm2
    have k4 := hb2.cell 4
    simp only [List.getElem?_cons_zero, List.getElem?_cons_succ] at k4
    cases hf : s2.pc.fin
    · obtain ⟨f, hv⟩ := val_func b hf
      rw [hv] at k4
      go_wp2_with fail
      go_ret
      exact ⟨ret_bool hf.symm, hsm2, hs2, hc2⟩
    · rw [val_done b hf] at k4
      go_wp2_with fail
      go_ret
      exact ⟨ret_bool hf.symm, hsm2, hs2, hc2⟩
  case popHead =>
    have D1 := D _ (popHead_does h1 h2 hq)
    rw [hq] at g4
    simp only [SPc.val] at g4
    clear D E hb hr
    go_enter Try.func86, Try.ntmps86
    go_wp2_with fail
    refine D1.mono ?_; rintro e w2 ⟨rfl, hsm2, hs2, hc2⟩
    obtain ⟨hok2, t2, hb2⟩ := id hsm2
    have k4 := hb2.cell 4
    simp only [List.getElem?_cons_zero, List.getElem?_cons_succ] at k4
    cases hf : s2.pc.fin
    · obtain ⟨f, hv⟩ := val_func b hf
      rw [hv] at k4
      go_wp2_with fail
      go_ret
      exact ⟨ret_bool hf.symm, hsm2, hs2, hc2⟩
    · rw [val_done b hf] at k4
      go_wp2_with fail
      go_ret
      exact ⟨ret_bool hf.symm, hsm2, hs2, hc2⟩
  case popLink =>
    have D1 := D _ (popLink_does hg h1 h2 hq)
    rw [hq] at g4
    simp only [SPc.val] at g4
    clear D E hb hr
    go_enter Try.func86, Try.ntmps86
    go_wp2_with fail
    refine D1.mono ?_; rintro e w2 ⟨rfl, hsm2, hs2, hc2⟩
    obtain ⟨hok2, t2, hb2⟩ := id hsm2
    have k4 := hb2.cell 4
    simp only [List.getElem?_cons_zero, List.getElem?_cons_succ] at k4
    cases hf : s2.pc.fin
    · obtain ⟨f, hv⟩ := val_func b hf
      rw [hv] at k4
      go_wp2_with fail
      go_ret
      exact ⟨ret_bool hf.symm, hsm2, hs2, hc2⟩
    · rw [val_done b hf] at k4
      go_wp2_with fail
      go_ret
      exact ⟨ret_bool hf.symm, hsm2, hs2, hc2⟩
  case popSwap =>
    have D1 := D _ (popSwap_does h1 h2 hq)
    rw [hq] at g4
    simp only [SPc.val] at g4
    clear D E hb hr
    go_enter Try.func86, Try.ntmps86
    go_wp2_with fail
    refine D1.mono ?_; rintro e w2 ⟨rfl, hsm2, hs2, hc2⟩
    obtain ⟨hok2, t2, hb2⟩ := id hsm2
    have k4 := hb2.cell 4
    simp only [List.getElem?_cons_zero, List.getElem?_cons_succ] at k4
    cases hf : s2.pc.fin
    · obtain ⟨f, hv⟩ := val_func b hf
      rw [hv] at k4
      go_wp2_with fail
      go_ret
      exact ⟨ret_bool hf.symm, hsm2, hs2, hc2⟩
    · rw [val_done b hf] at k4
      go_wp2_with fail
      go_ret
      exact ⟨ret_bool hf.symm, hsm2, hs2, hc2⟩

theorem push_any {bm : Nat} {fl : FuncId} {head item : Int} (w : World) (hi0 : 0 ≤ item) (hi1 : item < 4294967296) :
    Calls Try.prog 36 #[.int .i64 head, .func (.func fl) #[.pointer (some ⟨bm, 0, none⟩)] #[], .int .i64 item] w fun e w' => e = .returned (.pointer (some ⟨w.heap.size, 0, none⟩)) ∧
      SmAt w' w.heap.size fl bm ⟨.pushHead, head, item, 0, 0⟩ ∧ w'.heap.size = w.heap.size + 1 ∧ Kept w w' := by
  have x1 : IntKind.u32.wrap item = item := by rw [IntKind.wrap_u32]; omega
  go_enter Try.func36, Try.ntmps36
  go_wp2_with fail
  go_ret
  have hok : SM.ok ⟨.pushHead, head, item, 0, 0⟩ := ⟨⟨hi0, hi1⟩, ⟨Int.le_refl 0, (by decide : (0 : Int) < 18446744073709551616)⟩, ⟨Int.le_refl 0, (by decide : (0 : Int) < 4294967296)⟩⟩
  exact ⟨rfl, ⟨hok, 0, Blk.new _ _ _⟩, by simp, (Below.refl _ _).alloc (Nat.le_refl _) _⟩

theorem pop_any {bm : Nat} {fl : FuncId} {head : Int} (w : World) :
    Calls Try.prog 39 #[.int .i64 head, .func (.func fl) #[.pointer (some ⟨bm, 0, none⟩)] #[]] w fun e w' => e = .returned (.pointer (some ⟨w.heap.size, 0, none⟩)) ∧
      SmAt w' w.heap.size fl bm ⟨.popHead, head, 0, 0, 0⟩ ∧ w'.heap.size = w.heap.size + 1 ∧ Kept w w' := by
  go_enter Try.func39, Try.ntmps39
  go_wp2_with fail
  go_ret
  have hok : SM.ok ⟨.popHead, head, 0, 0, 0⟩ := ⟨⟨Int.le_refl 0, (by decide : (0 : Int) < 4294967296)⟩, ⟨Int.le_refl 0, (by decide : (0 : Int) < 18446744073709551616)⟩, ⟨Int.le_refl 0, (by decide : (0 : Int) < 4294967296)⟩⟩
  exact ⟨rfl, ⟨hok, 0, Blk.new _ _ _⟩, by simp, (Below.refl _ _).alloc (Nat.le_refl _) _⟩

end Go.Proofs.Ytchlbdfapgeebaa
