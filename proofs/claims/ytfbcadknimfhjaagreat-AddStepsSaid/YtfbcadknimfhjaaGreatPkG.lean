/- A marker's deque: its machine's step; what came of it; a push is made: walked. A push onto a deque, and a pop, are made: walked. A marker's task that is put somewhere: where its deque stands; a machine that is finished at once: walked. A marker's task that is put somewhere: the machine is made: walked. A marker's task that is put somewhere: the deque's steps: walked. -/
import Derived.Test.YtfbcadknimfhjaaGreatPkDeqP
import Derived.Test.YtfbcadknimfhjaaGreatPkW
namespace Go.Proofs.YtfbcadknimfhjaaGreat
open Go.RowKit

def DPc.fin : DPc → Bool
  | .done => true
  | _ => false

theorem dval_func {q : DPc} (b q1 q2 : Nat) (h : q.fin = false) : ∃ (f : FuncId) (x y : Array Value), q.val b q1 q2 = .func (.func f) x y := by
  cases q
  · cases h
  all_goals exact ⟨_, _, _, rfl⟩

theorem dval_done {q : DPc} (b q1 q2 : Nat) (h : q.fin = true) : q.val b q1 q2 = .nilFunc := by
  cases q
  · rfl
  all_goals cases h

theorem dstepDone {b q1 q2 : Nat} {e : DEnds} {d : DQ} (w : World) (sp : Value) (h : DqAt w b q1 q2 e d) (hp : d.pc = .done) :
    Calls Tryz.prog 71 #[.pointer (some ⟨b, 0, none⟩), sp] w fun r w' => r = .returned (.bool true) ∧ w = w' := by
  have hb := h.blk
  rw [hp] at hb
  have g4 := hb.cell 4
  simp only [List.getElem?_cons_zero, List.getElem?_cons_succ] at g4
  have hn0 := func_eql0
  simp only [DPc.val] at g4
  go_enter Tryz.func71, Tryz.ntmps71
  go_wp2_with fail
  go_ret
  exact ⟨rfl, rfl⟩

set_option maxRecDepth 8000 in
theorem dstep_any {b q1 q2 bs bl : Nat} {e : DEnds} {d : DQ} {mem : List Int} {n : Int} (w : World) (h : DqAt w b q1 q2 e d) (hs : StoreAt w bs bl mem n) (h1 : b ≠ bs) (h2 : b ≠ bl) (hp : d.pc.fin = false) :
    Calls Tryz.prog 71 #[.pointer (some ⟨b, 0, none⟩), .pointer (some ⟨bs, 0, none⟩)] w fun r w' => r = .returned (.bool (dqStep e mem d).2.pc.fin) ∧ DqAt w' b q1 q2 e (dqStep e mem d).2 ∧ StoreAt w' bs bl (dqStep e mem d).1 (cnt n) ∧ Chg (DqB b bs bl) w w' := by
  have g4 := h.blk.cell 4
  simp only [List.getElem?_cons_zero, List.getElem?_cons_succ] at g4
  have hn0 := func_eql0
  have hn1 := func_eql
  cases hq : d.pc
  case done => rw [hq] at hp; cases hp
  case pushBottom =>
    have D := dqBegun_does w h hs h1 h2 hq
    rw [hq] at g4
    simp only [DPc.val] at g4
    generalize dqStep e mem d = rr at *
    clear h
    go_enter Tryz.func71, Tryz.ntmps71
    go_wp2_with fail
    refine D.mono ?_; rintro r w2 ⟨rfl, hd2, hs2, hc2⟩
    have k4 := hd2.blk.cell 4
    simp only [List.getElem?_cons_zero, List.getElem?_cons_succ] at k4
    cases hf : rr.2.pc.fin
    · obtain ⟨f, x, y, hv⟩ := dval_func b q1 q2 hf
      rw [hv] at k4
      go_wp2_with fail
      go_ret
      exact ⟨ret_bool hf.symm, hd2, hs2, hc2⟩
    · rw [dval_done b q1 q2 hf] at k4
      go_wp2_with fail
      go_ret
      exact ⟨ret_bool hf.symm, hd2, hs2, hc2⟩
  case pushTop =>
    have D := dqTop_does w h hs h1 h2 hq
    rw [hq] at g4
    simp only [DPc.val] at g4
    generalize dqStep e mem d = rr at *
    clear h
    go_enter Tryz.func71, Tryz.ntmps71
    go_wp2_with fail
    refine D.mono ?_; rintro r w2 ⟨rfl, hd2, hs2, hc2⟩
    have k4 := hd2.blk.cell 4
    simp only [List.getElem?_cons_zero, List.getElem?_cons_succ] at k4
    cases hf : rr.2.pc.fin
    · obtain ⟨f, x, y, hv⟩ := dval_func b q1 q2 hf
      rw [hv] at k4
      go_wp2_with fail
      go_ret
      exact ⟨ret_bool hf.symm, hd2, hs2, hc2⟩
    · rw [dval_done b q1 q2 hf] at k4
      go_wp2_with fail
      go_ret
      exact ⟨ret_bool hf.symm, hd2, hs2, hc2⟩
  case pushEntry =>
    have D := dqEntry_does w h hs h1 h2 hq
    rw [hq] at g4
    simp only [DPc.val] at g4
    generalize dqStep e mem d = rr at *
    clear h
    go_enter Tryz.func71, Tryz.ntmps71
    go_wp2_with fail
    refine D.mono ?_; rintro r w2 ⟨rfl, hd2, hs2, hc2⟩
    have k4 := hd2.blk.cell 4
    simp only [List.getElem?_cons_zero, List.getElem?_cons_succ] at k4
    cases hf : rr.2.pc.fin
    · obtain ⟨f, x, y, hv⟩ := dval_func b q1 q2 hf
      rw [hv] at k4
      go_wp2_with fail
      go_ret
      exact ⟨ret_bool hf.symm, hd2, hs2, hc2⟩
    · rw [dval_done b q1 q2 hf] at k4
      go_wp2_with fail
      go_ret
      exact ⟨ret_bool hf.symm, hd2, hs2, hc2⟩
  case pushEnd =>
    have D := dqEnd_does w h hs h1 h2 hq
    rw [hq] at g4
    simp only [DPc.val] at g4
    generalize dqStep e mem d = rr at *
    clear h
    go_enter Tryz.func71, Tryz.ntmps71
    go_wp2_with fail
    refine D.mono ?_; rintro r w2 ⟨rfl, hd2, hs2, hc2⟩
    have k4 := hd2.blk.cell 4
    simp only [List.getElem?_cons_zero, List.getElem?_cons_succ] at k4
    cases hf : rr.2.pc.fin
    · obtain ⟨f, x, y, hv⟩ := dval_func b q1 q2 hf
      rw [hv] at k4
      go_wp2_with fail
      go_ret
      exact ⟨ret_bool hf.symm, hd2, hs2, hc2⟩
    · rw [dval_done b q1 q2 hf] at k4
      go_wp2_with fail
      go_ret
      exact ⟨ret_bool hf.symm, hd2, hs2, hc2⟩

/-- What came of a machine that is finished. -/
theorem dresult_any {b q1 q2 : Nat} {e : DEnds} {d : DQ} (w : World) (h : DqAt w b q1 q2 e d) (hp : d.pc = .done) :
    Calls Tryz.prog 72 #[.pointer (some ⟨b, 0, none⟩)] w fun r w' => r = .returned (.tuple #[.int .i64 d.out, .int .u64 d.wd]) ∧ Kept w w' := by
  have hb := h.blk
  rw [hp] at hb
  have g4 := hb.cell 4
  have g7 := hb.cell 7
  have g8 := hb.cell 8
  simp only [List.getElem?_cons_zero, List.getElem?_cons_succ] at g4 g7 g8
  have hn0 := func_neq0
  simp only [DPc.val] at g4
  go_enter Tryz.func72, Tryz.ntmps72
  go_wp2_with fail
  go_region_held3 (fun w' => w'.cell? ⟨b, 8, none⟩ = some (.int .i64 d.out) ∧ w'.cell? ⟨b, 7, none⟩ = some (.int .u64 d.wd)) (first | exact ⟨g8, g7⟩) (fail)
  go_wp2_with fail
  go_ret2
  exact ⟨rfl, (Below.refl _ _).drew⟩

end Go.Proofs.YtfbcadknimfhjaaGreat

namespace Go.Proofs.YtfbcadknimfhjaaGreat
open Go.RowKit

theorem blk_new_at {w : World} {k : Nat} (t : TypeId) (l : List Value) (h : w.heap.size = k) : Blk (w.alloc (.cells l.toArray t)) k t l := by
  subst h; exact Blk.new _ _ _

set_option maxRecDepth 8000 in
theorem begunPush_any (e : DEnds) (x : Int) (w : World) (he : e.ok) (hx : U x) :
    Calls Tryz.prog 69 #[.agg #[.int .i64 e.tp, .int .i64 e.bt, .int .i64 e.en, .int .i64 e.rm], .int .u64 x, .func (.func 70) #[] #[]] w fun r w' => ∃ b q1 q2, r = .returned (.pointer (some ⟨b, 0, none⟩)) ∧ DqAt w' b q1 q2 e ⟨.pushBottom, 0, 0, x, 0, false⟩ ∧ w.heap.size ≤ b ∧ w.heap.size ≤ q1 ∧ w.heap.size ≤ q2 ∧ Kept w w' := by
  go_enter Tryz.func69, Tryz.ntmps69
  go_wp2_with fail
  go_ret
  refine ⟨w.heap.size + 1 + 1, w.heap.size + 1, w.heap.size + 1 + 1 + 1, rfl, ⟨⟨by omega, by omega⟩, ⟨by show U 0; unfold U; omega, by show U 0; unfold U; omega, hx⟩, he, ?_, fun f hf => ?_⟩, by omega, by omega, by omega, ?_⟩
  · exact (blk_new_at _ _ (by simp)).alloc _
  · obtain rfl := Option.some.inj hf
    exact ⟨((blk_new_at _ _ (by simp)).alloc _).alloc _, blk_new_at _ _ (by simp)⟩
  · exact (((((Below.refl w.heap.size w).alloc (Nat.le_refl _) _).alloc (by simp) _).alloc (by simp; omega) _).alloc (by simp; omega) _)

theorem push_deq (e : DEnds) (x : Int) (w : World) (he : e.ok) (hx : U x) :
    Calls Tryz.prog 43 #[.agg #[.int .i64 e.tp, .int .i64 e.bt, .int .i64 e.en, .int .i64 e.rm], .int .u64 x] w fun r w' => ∃ b q1 q2, r = .returned (.pointer (some ⟨b, 0, none⟩)) ∧ DqAt w' b q1 q2 e ⟨.pushBottom, 0, 0, x, 0, false⟩ ∧ w.heap.size ≤ b ∧ w.heap.size ≤ q1 ∧ w.heap.size ≤ q2 ∧ Kept w w' := by
  go_enter Tryz.func43, Tryz.ntmps43
  go_wp2_with fail
  refine (begunPush_any e x _ he hx).mono ?_; rintro r w2 ⟨b, q1, q2, rfl, hd, h1, h2, h3, hk⟩
  go_wp2_with fail
  go_ret
  have hk0 : Kept w (w.alloc (.cells #[.int .i64 e.tp, .int .i64 e.bt, .int .i64 e.en, .int .i64 e.rm] 71)) := (Below.refl _ _).alloc (Nat.le_refl _) _
  have hz := hk0.size
  exact ⟨b, q1, q2, rfl, hd, by omega, by omega, by omega, hk0.trans' hk⟩

end Go.Proofs.YtfbcadknimfhjaaGreat

namespace Go.Proofs.YtfbcadknimfhjaaGreat
open Go.RowKit

/-- Where a marker's deque stands. -/
def endsOf (c : Cfg) (i : Int) : DEnds := ⟨pEnd c i 0, pEnd c i 1, pEntry c i 0, c.dq⟩

theorem mTop_k {B bm : Nat} {c : Cfg} (i : Int) (w : World) (hm : MapAt w B bm c) (hg : Good c) :
    Calls Tryz.prog 20 #[.pointer (some ⟨bm, 0, none⟩), .int .i64 i] w fun e w' => e = .returned (.int .i64 (pEnd c i 0)) ∧ Kept w w' :=
  (mTop_any i w hm hg).mono fun _ _ ⟨h, n, e⟩ => ⟨h, by rw [e]; exact ⟨rfl, rfl, rfl, Nat.le_refl _, fun _ _ => rfl⟩⟩
theorem mBottom_k {B bm : Nat} {c : Cfg} (i : Int) (w : World) (hm : MapAt w B bm c) (hg : Good c) :
    Calls Tryz.prog 51 #[.pointer (some ⟨bm, 0, none⟩), .int .i64 i] w fun e w' => e = .returned (.int .i64 (pEnd c i 1)) ∧ Kept w w' :=
  (mBottom_any i w hm hg).mono fun _ _ ⟨h, n, e⟩ => ⟨h, by rw [e]; exact ⟨rfl, rfl, rfl, Nat.le_refl _, fun _ _ => rfl⟩⟩
theorem mEntry_k {B bm : Nat} {c : Cfg} (i j : Int) (w : World) (hm : MapAt w B bm c) (hg : Good c) :
    Calls Tryz.prog 52 #[.pointer (some ⟨bm, 0, none⟩), .int .i64 i, .int .i64 j] w fun e w' => e = .returned (.int .i64 (pEntry c i j)) ∧ Kept w w' :=
  (mEntry_any i j w hm hg).mono fun _ _ ⟨h, n, e⟩ => ⟨h, by rw [e]; exact ⟨rfl, rfl, rfl, Nat.le_refl _, fun _ _ => rfl⟩⟩

theorem cfg_dq (a b d e f g i j k l m n : Int) (W : World) : (Instr.field 24 (.agg #[.int .i64 a, .int .i64 b, .int .i64 d, .int .i64 e, .int .i64 f, .int .i64 g, .int .i64 i, .int .i64 j, .int .i64 k, .int .i64 l, .int .i64 m, .int .i64 n]) 3).run Tryz.prog W = .ok (.int .i64 j) W := by kernel_rfl

set_option maxRecDepth 8000 in
theorem ends_any {B bm : Nat} {c : Cfg} (i : Int) (w : World) (hm : MapAt w B bm c) (hB : B ≤ w.heap.size) (hg : Good c) :
    Calls Tryz.prog 23 #[.pointer (some ⟨bm, 0, none⟩), .int .i64 i] w fun r w' => r = .returned (.agg #[.int .i64 (endsOf c i).tp, .int .i64 (endsOf c i).bt, .int .i64 (endsOf c i).en, .int .i64 (endsOf c i).rm]) ∧ Kept w w' := by
  have hb0 := Blk.new w 71 [.int .i64 0, .int .i64 0, .int .i64 0, .int .i64 0]
  have hk0 : Kept w (w.alloc (.cells #[.int .i64 0, .int .i64 0, .int .i64 0, .int .i64 0] 71)) := (Below.refl _ _).alloc (Nat.le_refl _) _
  have hm0 := hm.kept hk0 hB
  go_enter Tryz.func23, Tryz.ntmps23
  go_wp2_with fail
  generalize w.alloc (.cells #[.int .i64 0, .int .i64 0, .int .i64 0, .int .i64 0] 71) = w1 at *
  refine (mTop_k i _ hm0 hg).mono ?_; rintro r w2 ⟨rfl, hk2⟩
  have hm2 := hm0.kept hk2 (Nat.le_trans hB hk0.size)
  go_wp2_with fail
  refine (mBottom_k i _ hm2 hg).mono ?_; rintro r w3 ⟨rfl, hk3⟩
  have hm3 := hm2.kept hk3 (Nat.le_trans hB (Nat.le_trans hk0.size hk2.size))
  go_wp2_with fail
  refine (mEntry_k i 0 _ hm3 hg).mono ?_; rintro r w4 ⟨rfl, hk4⟩
  have hm4 := hm3.kept hk4 (Nat.le_trans hB (Nat.le_trans hk0.size (Nat.le_trans hk2.size hk3.size)))
  go_wp2_with fail
  refine (mConfig_any _ hm4).mono ?_; rintro r w5 ⟨rfl, hk5⟩
  have hb5 := hk5.blk (hk4.blk (hk3.blk (hk2.blk hb0)))
  have hK5 : Kept w w5 := (((hk0.trans' hk2).trans' hk3).trans' hk4).trans' hk5
  have c0 := hb5.cell 0
  have c1 := hb5.cell 1
  have c2 := hb5.cell 2
  have c3 := hb5.cell 3
  have f0 := hb5.free 0
  have f1 := hb5.free 1
  have f2 := hb5.free 2
  have f3 := hb5.free 3
  simp only [List.getElem?_cons_zero, List.getElem?_cons_succ] at c0 c1 c2 c3
  have hf := fun W => cfg_dq c.c0 c.c1 c.c2 c.c3 c.c4 c.mks c.mus c.dq c.ch c.bu c.ro c.sw W
  go_wp2_with fail
  have hb6 := (((hb5.set' 0 (.int .i64 (pEnd c i 0)) rfl).set' 1 (.int .i64 (pEnd c i 1)) rfl).set' 2 (.int .i64 (pEntry c i 0)) rfl).set' 3 (.int .i64 c.dq) rfl
  have hK6 := Below.setCell (Below.setCell (Below.setCell (Below.setCell hK5 (p := ⟨w.heap.size, 0, none⟩) (Nat.le_refl _) (.int .i64 (pEnd c i 0))) (p := ⟨w.heap.size, 1, none⟩) (Nat.le_refl _) (.int .i64 (pEnd c i 1))) (p := ⟨w.heap.size, 2, none⟩) (Nat.le_refl _) (.int .i64 (pEntry c i 0))) (p := ⟨w.heap.size, 3, none⟩) (Nat.le_refl _) (.int .i64 c.dq)
  clear c0 c1 c2 c3 f0 f1 f2 f3
  generalize (((w5.setCell ⟨w.heap.size, 0, none⟩ (.int .i64 (pEnd c i 0))).setCell ⟨w.heap.size, 1, none⟩ (.int .i64 (pEnd c i 1))).setCell ⟨w.heap.size, 2, none⟩ (.int .i64 (pEntry c i 0))).setCell ⟨w.heap.size, 3, none⟩ (.int .i64 c.dq) = w6 at *
  have c0 := hb6.cell 0
  have c1 := hb6.cell 1
  have c2 := hb6.cell 2
  have c3 := hb6.cell 3
  simp only [List.set_cons_zero, List.set_cons_succ, List.getElem?_cons_zero, List.getElem?_cons_succ] at c0 c1 c2 c3
  exact bodyPost_ret (v := .agg #[.int .i64 (pEnd c i 0), .int .i64 (pEnd c i 1), .int .i64 (pEntry c i 0), .int .i64 c.dq]) (by simp [results, Tryz.results23, go_sem, c0, c1, c2, c3]) rfl ⟨rfl, hK6⟩

/-- A machine of add that is finished, and spilled nothing. -/
def AdNone (w : World) (b : Nat) : Prop := ∃ v0 v1 v2 v3, Blk w b 94 [v0, v1, v2, v3, .bool false, .nilFunc]

theorem addNew_none {B bm : Nat} {c : Cfg} (i x : Int) (w : World) (hm : MapAt w B bm c) (hB : B ≤ w.heap.size) (hg : Good c) (hi : ¬ (0 ≤ i ∧ i < c.mks)) :
    Calls Tryz.prog 12 #[.pointer (some ⟨bm, 0, none⟩), .int .i64 i, .int .u64 x] w fun r w' => r = .returned (.pointer (some ⟨w.heap.size, 0, none⟩)) ∧ AdNone w' w.heap.size ∧ Kept w w' := by
  have hb := Blk.new w 94 [.pointer (some ⟨bm, 0, none⟩), .int .u64 x, .pointer none, .pointer none, .bool false, .nilFunc]
  have hk : Kept w (w.alloc (.cells ([.pointer (some ⟨bm, 0, none⟩), .int .u64 x, .pointer none, .pointer none, .bool false, .nilFunc] : List Value).toArray 94)) := (Below.refl _ _).alloc (Nat.le_refl _) _
  have HP : Hid (pEnd c i 0 = -1) := if_neg hi
  clear hi
  go_enter Tryz.func12, Tryz.ntmps12
  go_wp2_with fail
  refine (mTop_k i _ (hm.kept hk hB) hg).mono ?_; rintro r w2 ⟨rfl, hk2⟩
  rw [HP.out]
  go_wp2_with fail
  go_ret
  exact ⟨rfl, ⟨_, _, _, _, hk2.blk hb⟩, hk.trans' hk2⟩

theorem addStep_none {b : Nat} (w : World) (sp : Value) (h : AdNone w b) :
    Calls Tryz.prog 16 #[.pointer (some ⟨b, 0, none⟩), sp] w fun r w' => r = .returned (.bool true) ∧ w = w' := by
  obtain ⟨v0, v1, v2, v3, hb⟩ := h
  have g5 := hb.cell 5
  simp only [List.getElem?_cons_zero, List.getElem?_cons_succ] at g5
  have hn0 := func_eql0
  go_enter Tryz.func16, Tryz.ntmps16
  go_wp2_with fail
  go_ret
  exact ⟨rfl, rfl⟩

theorem addSpilled_none {b : Nat} (w : World) (h : AdNone w b) :
    Calls Tryz.prog 18 #[.pointer (some ⟨b, 0, none⟩)] w fun r w' => r = .returned (.bool false) ∧ w = w' := by
  obtain ⟨v0, v1, v2, v3, hb⟩ := h
  have g4 := hb.cell 4
  simp only [List.getElem?_cons_zero, List.getElem?_cons_succ] at g4
  go_enter Tryz.func18, Tryz.ntmps18
  go_wp2_with fail
  go_ret
  exact ⟨rfl, rfl⟩

end Go.Proofs.YtfbcadknimfhjaaGreat

namespace Go.Proofs.YtfbcadknimfhjaaGreat
open Go.RowKit

/-- What add's machine does next. -/
inductive APc where
  | done | own | pool
deriving DecidableEq

def APc.val (b : Nat) : APc → Value
  | .done => .nilFunc
  | .own => .func (.func 44) #[.pointer (some ⟨b, 0, none⟩)] #[]
  | .pool => .func (.func 74) #[.pointer (some ⟨b, 0, none⟩)] #[]

/-- What it knows. -/
structure AM where
  pc : APc
  task : Int
  dq : DQ
  put : PM
  spilled : Bool

abbrev amL (bm : Nat) (task : Int) (pd pp : Value) (sp : Bool) (nx : Value) : List Value := [.pointer (some ⟨bm, 0, none⟩), .int .u64 task, pd, pp, .bool sp, nx]

set_option maxRecDepth 8000 in
theorem addNew_some {B bm : Nat} {c : Cfg} (i x : Int) (w : World) (hm : MapAt w B bm c) (hB : B ≤ w.heap.size) (hg : Good c) (_hi : 0 ≤ i ∧ i < c.mks) (hx : U x) (he : (endsOf c i).ok) (h0 : 0 ≤ pEnd c i 0) :
    Calls Tryz.prog 12 #[.pointer (some ⟨bm, 0, none⟩), .int .i64 i, .int .u64 x] w fun r w' => ∃ a b q1 q2, r = .returned (.pointer (some ⟨a, 0, none⟩)) ∧ Blk w' a 94 (amL bm x (.pointer (some ⟨b, 0, none⟩)) (.pointer none) false ((APc.own).val a)) ∧
      DqAt w' b q1 q2 (endsOf c i) ⟨.pushBottom, 0, 0, x, 0, false⟩ ∧ w.heap.size ≤ a ∧ a < b ∧ a < q1 ∧ a < q2 ∧ Kept w w' := by
  have hb := Blk.new w 94 (amL bm x (.pointer none) (.pointer none) false .nilFunc)
  have hk : Kept w (w.alloc (.cells (amL bm x (.pointer none) (.pointer none) false .nilFunc).toArray 94)) := (Below.refl _ _).alloc (Nat.le_refl _) _
  obtain ⟨tp, ht⟩ : ∃ tp : Int, pEnd c i 0 = tp := ⟨_, rfl⟩
  have HT : Hid (pEnd c i 0 = tp) := ht
  rw [ht] at h0
  clear ht
  go_enter Tryz.func12, Tryz.ntmps12
  go_wp2_with fail
  generalize hw1 : w.alloc (.cells (amL bm x (.pointer none) (.pointer none) false .nilFunc).toArray 94) = w1 at *
  have hz : w1.heap.size = w.heap.size + 1 := by rw [← hw1]; simp
  clear hw1
  have hm1 := hm.kept hk hB
  refine (mTop_k i w1 hm1 hg).mono ?_; rintro r w2 ⟨rfl, hk2⟩
  rw [HT.out]
  have hm2 := hm1.kept hk2 (by omega)
  have hb2 := hk2.blk hb
  have z2 := hk2.size
  go_wp2_with fail
  refine (ends_any i w2 hm2 (by omega) hg).mono ?_; rintro r w3 ⟨rfl, hk3⟩
  have hb3 := hk3.blk hb2
  have z3 := hk3.size
  go_wp2_with fail
  refine (push_deq (endsOf c i) x w3 he hx).mono ?_; rintro r w4 ⟨b, q1, q2, rfl, hd, y1, y2, y3, hk4⟩
  have hb4 := hk4.blk hb3
  have f2 := hb4.free 2
  have g2 := hb4.cell 2
  have f5 := hb4.free 5
  have g5 := hb4.cell 5
  simp only [List.getElem?_cons_zero, List.getElem?_cons_succ] at g2 g5
  go_wp2_with fail
  go_ret
  have hcb : Chg (fun k => k = w.heap.size) w4 ((w4.setCell ⟨w.heap.size, 2, none⟩ (.pointer (some ⟨b, 0, none⟩))).setCell ⟨w.heap.size, 5, none⟩ ((APc.own).val w.heap.size)) := ((Chg.refl (fun k => k = w.heap.size) w4).setCell ⟨w.heap.size, 2, none⟩ _ (fun _ => rfl)).setCell ⟨w.heap.size, 5, none⟩ _ (fun _ => rfl)
  obtain ⟨d1, d2, d3, d4, d5⟩ := hd
  refine ⟨w.heap.size, b, q1, q2, rfl, (hb4.set' 2 _ rfl).set' 5 _ rfl, ⟨d1, d2, d3, hcb.blk d4 (by show ¬ b = w.heap.size; omega), fun f e => ⟨hcb.blk (d5 f e).1 (by show ¬ q1 = w.heap.size; omega), hcb.blk (d5 f e).2 (by show ¬ q2 = w.heap.size; omega)⟩⟩, Nat.le_refl _, by omega, by omega, by omega, ?_⟩
  exact Below.setCell (Below.setCell (((hk.trans' hk2).trans' hk3).trans' hk4) (p := ⟨w.heap.size, 2, none⟩) (Nat.le_refl _) _) (p := ⟨w.heap.size, 5, none⟩) (Nat.le_refl _) _

end Go.Proofs.YtfbcadknimfhjaaGreat

namespace Go.Proofs.YtfbcadknimfhjaaGreat
open Go.RowKit

/-- The blocks that a step may change. -/
abbrev AmB (a b bs bl : Nat) : Nat → Prop := fun k => k = a ∨ DqB b bs bl k

theorem DqAt.chgB {w w' : World} {S : Nat → Prop} {b q1 q2 : Nat} {e : DEnds} {d : DQ} (h : DqAt w b q1 q2 e d) (k : Chg S w w') (hn : ¬ S b) (hp : d.pc.first = none) : DqAt w' b q1 q2 e d :=
  ⟨h.ap, h.ok, h.eok, k.blk h.blk hn, fun f e => by rw [hp] at e; cases e⟩

set_option maxRecDepth 8000 in
theorem own_more {a b q1 q2 bm bs bl : Nat} {x : Int} {pp : Value} {sp : Bool} {e : DEnds} {d : DQ} {mem : List Int} {n : Int} (w : World) (hA : Blk w a 94 (amL bm x (.pointer (some ⟨b, 0, none⟩)) pp sp ((APc.own).val a))) (hd : DqAt w b q1 q2 e d) (hs : StoreAt w bs bl mem n)
    (h1 : b ≠ bs) (h2 : b ≠ bl) (h3 : a ≠ b) (h4 : a ≠ bs) (h5 : a ≠ bl) (hp : d.pc.fin = false) (hf : (dqStep e mem d).2.pc.fin = false) :
    Calls Tryz.prog 44 #[.pointer (some ⟨a, 0, none⟩), .pointer (some ⟨bs, 0, none⟩)] w fun r w' => r = .returned (.tuple #[]) ∧ Blk w' a 94 (amL bm x (.pointer (some ⟨b, 0, none⟩)) pp sp ((APc.own).val a)) ∧ DqAt w' b q1 q2 e (dqStep e mem d).2 ∧ StoreAt w' bs bl (dqStep e mem d).1 (cnt n) ∧ Chg (AmB a b bs bl) w w' := by
  have D := dstep_any w hd hs h1 h2 hp
  rw [hf] at D
  generalize dqStep e mem d = rr at *
  have g2 := hA.cell 2
  simp only [List.getElem?_cons_zero, List.getElem?_cons_succ] at g2
  clear hf
  go_enter Tryz.func44, Tryz.ntmps44
  go_wp2_with fail
  refine D.mono ?_; rintro r w2 ⟨rfl, hd2, hs2, hc2⟩
  go_wp2_with fail
  refine bodyPost_ret (results_none rfl _ _ _) rfl ?_
  exact ⟨rfl, hc2.blk hA (fun e => by rcases e with e | e | e; exact h3 e; exact h4 e; exact h5 e), hd2, hs2, hc2.mono (fun _ _ e => .inr e)⟩

set_option maxRecDepth 8000 in
theorem own_done {a b q1 q2 bm bs bl : Nat} {x : Int} {pp : Value} {sp : Bool} {e : DEnds} {d : DQ} {mem : List Int} {n : Int} (w : World) (hA : Blk w a 94 (amL bm x (.pointer (some ⟨b, 0, none⟩)) pp sp ((APc.own).val a))) (hd : DqAt w b q1 q2 e d) (hs : StoreAt w bs bl mem n)
    (h1 : b ≠ bs) (h2 : b ≠ bl) (h3 : a ≠ b) (h4 : a ≠ bs) (h5 : a ≠ bl) (hp : d.pc.fin = false) (hf : (dqStep e mem d).2.pc = .done) (ho : (dqStep e mem d).2.out ≠ 2) :
    Calls Tryz.prog 44 #[.pointer (some ⟨a, 0, none⟩), .pointer (some ⟨bs, 0, none⟩)] w fun r w' => r = .returned (.tuple #[]) ∧ Blk w' a 94 (amL bm x (.pointer (some ⟨b, 0, none⟩)) pp sp .nilFunc) ∧ DqAt w' b q1 q2 e (dqStep e mem d).2 ∧ StoreAt w' bs bl (dqStep e mem d).1 (cnt n) ∧ Chg (AmB a b bs bl) w w' := by
  have D := dstep_any w hd hs h1 h2 hp
  rw [show (dqStep e mem d).2.pc.fin = true from by rw [hf]; rfl] at D
  generalize dqStep e mem d = rr at *
  have hob : (rr.2.out == 2) = false := by simpa using ho
  have HF : Hid (rr.2.pc = .done) := hf
  have g2 := hA.cell 2
  simp only [List.getElem?_cons_zero, List.getElem?_cons_succ] at g2
  clear hf ho
  go_enter Tryz.func44, Tryz.ntmps44
  go_wp2_with fail
  refine D.mono ?_; rintro r w2 ⟨rfl, hd2, hs2, hc2⟩
  have hA2 := hc2.blk hA (fun e => by rcases e with e | e | e; exact h3 e; exact h4 e; exact h5 e)
  have f5 := hA2.free 5
  have g5 := hA2.cell 5
  have q2' := hA2.cell 2
  simp only [List.getElem?_cons_zero, List.getElem?_cons_succ] at g5 q2'
  go_wp2_with fail
  have hcb : Chg (fun k => k = a) w2 (w2.setCell ⟨a, 5, none⟩ .nilFunc) := (Chg.refl (fun k => k = a) w2).setCell ⟨a, 5, none⟩ _ (fun _ => rfl)
  have hA3 := hA2.set' 5 .nilFunc (l' := amL bm x (.pointer (some ⟨b, 0, none⟩)) pp sp .nilFunc) rfl
  have hd3 := hd2.chgB hcb (by show ¬ b = a; omega) (by rw [HF.out]; rfl)
  have hs3 := hs2.chg hcb (by show ¬ bs = a; omega) (by show ¬ bl = a; omega)
  have hc3 := (hc2.mono (T := AmB a b bs bl) (fun _ _ e => .inr e)).trans (hcb.mono (fun _ _ e => .inl e))
  generalize w2.setCell ⟨a, 5, none⟩ .nilFunc = w3 at *
  clear f5 g5 q2'
  have q2' := hA3.cell 2
  simp only [List.getElem?_cons_zero, List.getElem?_cons_succ] at q2'
  go_wp2_with fail
  refine (dresult_any w3 hd3 HF.out).mono ?_; rintro r w4 ⟨rfl, hk4⟩
  go_wp2_with fail
  go_end0
  exact ⟨rfl, hk4.blk hA3, hd3.chgB (Chg.ofBelow (S := fun _ => False) hk4) id (by rw [HF.out]; rfl), hs3.kept hk4, hc3.trans (Chg.ofBelow hk4)⟩

end Go.Proofs.YtfbcadknimfhjaaGreat
