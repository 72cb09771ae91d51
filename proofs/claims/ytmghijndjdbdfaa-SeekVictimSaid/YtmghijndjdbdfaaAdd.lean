/- A marker's task that is put somewhere: where its deque stands; a machine that is finished at once: walked. -/
import Derived.Test.YtmghijndjdbdfaaDeq3
namespace Go.Proofs.Ytmghijndjdbdfaa
open Go.RowKit

/-- Where a marker's deque stands. -/
def endsOf (c : Cfg) (i : Int) : DEnds := ⟨pEnd c i 0, pEnd c i 1, pEntry c i 0, c.dq⟩

theorem mTop_k {B bm : Nat} {c : Cfg} (i : Int) (w : World) (hm : MapAt w B bm c) (hg : Good c) :
    Calls Try.prog 36 #[.pointer (some ⟨bm, 0, none⟩), .int .i64 i] w fun e w' => e = .returned (.int .i64 (pEnd c i 0)) ∧ Kept w w' :=
  (mTop_any i w hm hg).mono fun _ _ ⟨h, n, e⟩ => ⟨h, by rw [e]; exact ⟨rfl, rfl, rfl, Nat.le_refl _, fun _ _ => rfl⟩⟩
theorem mBottom_k {B bm : Nat} {c : Cfg} (i : Int) (w : World) (hm : MapAt w B bm c) (hg : Good c) :
    Calls Try.prog 58 #[.pointer (some ⟨bm, 0, none⟩), .int .i64 i] w fun e w' => e = .returned (.int .i64 (pEnd c i 1)) ∧ Kept w w' :=
  (mBottom_any i w hm hg).mono fun _ _ ⟨h, n, e⟩ => ⟨h, by rw [e]; exact ⟨rfl, rfl, rfl, Nat.le_refl _, fun _ _ => rfl⟩⟩
theorem mEntry_k {B bm : Nat} {c : Cfg} (i j : Int) (w : World) (hm : MapAt w B bm c) (hg : Good c) :
    Calls Try.prog 59 #[.pointer (some ⟨bm, 0, none⟩), .int .i64 i, .int .i64 j] w fun e w' => e = .returned (.int .i64 (pEntry c i j)) ∧ Kept w w' :=
  (mEntry_any i j w hm hg).mono fun _ _ ⟨h, n, e⟩ => ⟨h, by rw [e]; exact ⟨rfl, rfl, rfl, Nat.le_refl _, fun _ _ => rfl⟩⟩

theorem cfg_dq (a b d e f g i j k l m n : Int) (W : World) : (Instr.field 24 (.agg #[.int .i64 a, .int .i64 b, .int .i64 d, .int .i64 e, .int .i64 f, .int .i64 g, .int .i64 i, .int .i64 j, .int .i64 k, .int .i64 l, .int .i64 m, .int .i64 n]) 3).run Try.prog W = .ok (.int .i64 j) W := by kernel_rfl

set_option maxRecDepth 8000 in
theorem ends_any {B bm : Nat} {c : Cfg} (i : Int) (w : World) (hm : MapAt w B bm c) (hB : B ≤ w.heap.size) (hg : Good c) :
    Calls Try.prog 38 #[.pointer (some ⟨bm, 0, none⟩), .int .i64 i] w fun r w' => r = .returned (.agg #[.int .i64 (endsOf c i).tp, .int .i64 (endsOf c i).bt, .int .i64 (endsOf c i).en, .int .i64 (endsOf c i).rm]) ∧ Kept w w' := by
  have hb0 := Blk.new w 69 [.int .i64 0, .int .i64 0, .int .i64 0, .int .i64 0]
  have hk0 : Kept w (w.alloc (.cells #[.int .i64 0, .int .i64 0, .int .i64 0, .int .i64 0] 69)) := (Below.refl _ _).alloc (Nat.le_refl _) _
  have hm0 := hm.kept hk0 hB
  go_enter Try.func38, Try.ntmps38
  go_wp2_with fail
  generalize w.alloc (.cells #[.int .i64 0, .int .i64 0, .int .i64 0, .int .i64 0] 69) = w1 at *
  refine (mTop_k i _ hm0 hg).mono ?_; rintro r w2 ⟨rfl, hk2⟩
  have hm2 := hm0.kept hk2 (Nat.le_trans hB hk0.size)
  go_wp2_with fail
  refine (mBottom_k i _ hm2 hg).mono ?_; rintro r w3 ⟨rfl, hk3⟩
  have hm3 := hm2.kept hk3 (Nat.le_trans hB (Nat.le_trans hk0.size hk2.size))
  go_wp2_with fail
  refine (mEntry_k i 0 _ hm3 hg).mono ?_; rintro r w4 ⟨rfl, hk4⟩
  have hm4 := hm3.kept hk4 (Nat.le_trans hB (Nat.le_trans hk0.size (Nat.le_trans hk2.size hk3.size)))
  go_wp2_with fail
  refine (mConfig_any _ hm4).mono ?_; rintro r w5 ⟨rfl, hk5⟩
  have hb5 := hk5.blk (hk4.blk (hk3.blk (hk2.blk hb0)))
  have hK5 : Kept w w5 := (((hk0.trans' hk2).trans' hk3).trans' hk4).trans' hk5
  have c0 := hb5.cell 0
  have c1 := hb5.cell 1
  have c2 := hb5.cell 2
  have c3 := hb5.cell 3
  have f0 := hb5.free 0
  have f1 := hb5.free 1
  have f2 := hb5.free 2
  have f3 := hb5.free 3
  simp only [List.getElem?_cons_zero, List.getElem?_cons_succ] at c0 c1 c2 c3
  have hf := fun W => cfg_dq c.c0 c.c1 c.c2 c.c3 c.c4 c.mks c.mus c.dq c.ch c.bu c.ro c.sw W
  go_wp2_with fail
  have hb6 := (((hb5.set' 0 (.int .i64 (pEnd c i 0)) rfl).set' 1 (.int .i64 (pEnd c i 1)) rfl).set' 2 (.int .i64 (pEntry c i 0)) rfl).set' 3 (.int .i64 c.dq) rfl
  have hK6 := Below.setCell (Below.setCell (Below.setCell (Below.setCell hK5 (p := ⟨w.heap.size, 0, none⟩) (Nat.le_refl _) (.int .i64 (pEnd c i 0))) (p := ⟨w.heap.size, 1, none⟩) (Nat.le_refl _) (.int .i64 (pEnd c i 1))) (p := ⟨w.heap.size, 2, none⟩) (Nat.le_refl _) (.int .i64 (pEntry c i 0))) (p := ⟨w.heap.size, 3, none⟩) (Nat.le_refl _) (.int .i64 c.dq)
  clear c0 c1 c2 c3 f0 f1 f2 f3
  generalize (((w5.setCell ⟨w.heap.size, 0, none⟩ (.int .i64 (pEnd c i 0))).setCell ⟨w.heap.size, 1, none⟩ (.int .i64 (pEnd c i 1))).setCell ⟨w.heap.size, 2, none⟩ (.int .i64 (pEntry c i 0))).setCell ⟨w.heap.size, 3, none⟩ (.int .i64 c.dq) = w6 at *
  have c0 := hb6.cell 0
  have c1 := hb6.cell 1
  have c2 := hb6.cell 2
  have c3 := hb6.cell 3
  simp only [List.set_cons_zero, List.set_cons_succ, List.getElem?_cons_zero, List.getElem?_cons_succ] at c0 c1 c2 c3
  exact bodyPost_ret (v := .agg #[.int .i64 (pEnd c i 0), .int .i64 (pEnd c i 1), .int .i64 (pEntry c i 0), .int .i64 c.dq]) (by simp [results, Try.results38, go_sem, c0, c1, c2, c3]) rfl ⟨rfl, hK6⟩

/-- A machine of add that is finished, and spilled nothing. -/
def AdNone (w : World) (b : Nat) : Prop := ∃ v0 v1 v2 v3, Blk w b 66 [v0, v1, v2, v3, .bool false, .nilFunc]

theorem addNew_none {B bm : Nat} {c : Cfg} (i x : Int) (w : World) (hm : MapAt w B bm c) (hB : B ≤ w.heap.size) (hg : Good c) (hi : ¬ (0 ≤ i ∧ i < c.mks)) :
    Calls Try.prog 12 #[.pointer (some ⟨bm, 0, none⟩), .int .i64 i, .int .u64 x] w fun r w' => r = .returned (.pointer (some ⟨w.heap.size, 0, none⟩)) ∧ AdNone w' w.heap.size ∧ Kept w w' := by
  have hb := Blk.new w 66 [.pointer (some ⟨bm, 0, none⟩), .int .u64 x, .pointer none, .pointer none, .bool false, .nilFunc]
  have hk : Kept w (w.alloc (.cells ([.pointer (some ⟨bm, 0, none⟩), .int .u64 x, .pointer none, .pointer none, .bool false, .nilFunc] : List Value).toArray 66)) := (Below.refl _ _).alloc (Nat.le_refl _) _
  have HP : Hid (pEnd c i 0 = -1) := if_neg hi
  clear hi
  go_enter Try.func12, Try.ntmps12
  go_wp2_with fail
  refine (mTop_k i _ (hm.kept hk hB) hg).mono ?_; rintro r w2 ⟨rfl, hk2⟩
  rw [HP.out]
  go_wp2_with fail
  go_ret
  exact ⟨rfl, ⟨_, _, _, _, hk2.blk hb⟩, hk.trans' hk2⟩

theorem addStep_none {b : Nat} (w : World) (sp : Value) (h : AdNone w b) :
    Calls Try.prog 35 #[.pointer (some ⟨b, 0, none⟩), sp] w fun r w' => r = .returned (.bool true) ∧ w = w' := by
  obtain ⟨v0, v1, v2, v3, hb⟩ := h
  have g5 := hb.cell 5
  simp only [List.getElem?_cons_zero, List.getElem?_cons_succ] at g5
  have hn0 := func_eql0
  go_enter Try.func35, Try.ntmps35
  go_wp2_with fail
  go_ret
  exact ⟨rfl, rfl⟩

theorem addSpilled_none {b : Nat} (w : World) (h : AdNone w b) :
    Calls Try.prog 13 #[.pointer (some ⟨b, 0, none⟩)] w fun r w' => r = .returned (.bool false) ∧ w = w' := by
  obtain ⟨v0, v1, v2, v3, hb⟩ := h
  have g4 := hb.cell 4
  simp only [List.getElem?_cons_zero, List.getElem?_cons_succ] at g4
  go_enter Try.func13, Try.ntmps13
  go_wp2_with fail
  go_ret
  exact ⟨rfl, rfl⟩

end Go.Proofs.Ytmghijndjdbdfaa
