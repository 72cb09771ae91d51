/- The document's packets: their machine's steps: walked. -/
import Derived.Test.YtfbcadknimfhjaaGreatPkRef9c
import Derived.Test.YtfbcadknimfhjaaGreatPkE
import Derived.Test.YtfbcadknimfhjaaGreatPkM
namespace Go.Proofs.YtfbcadknimfhjaaGreat
open Go.RowKit

def pcN11 : PPc → Int
  | .done => 0
  | .spare => 1
  | .fill => 2
  | .many => 3
  | .last => 4

abbrev r11L (kind pc : Int) (tv : Value) (j p xk xpc xhd : Int) (xvl : Value) (xi xh xl xt : Int) : List Value := [.int .i64 kind, .int .i64 pc, tv, .int .i64 j, .int .i64 p, .int .i64 xk, .int .i64 xpc, .int .i64 xhd, xvl, .int .u32 xi, .int .u64 xh, .int .u32 xl, .int .i64 xt]

/-- The document's machine, as a value. -/
structure R11 (w : World) (v : Value) (Ls : List Int) (tv xvl : Value) (s : PM) : Prop where
  pr : 0 ≤ s.p ∧ s.p < 4294967296
  jr : s.j ≤ s.tasks.length ∧ s.tasks.length ≤ 4
  ex : ∃ kind xk xpc xhd xi xh xl xt, v = .agg (r11L kind (pcN11 s.pc) tv s.j s.p xk xpc xhd xvl xi xh xl xt).toArray ∧ Reads w tv (s.tasks.map (Value.int .u64)) ∧ (∃ ao n cap, xvl = .slice ao n cap) ∧ ((s.pc = .spare ∨ s.pc = .last) → R9 w (.agg (r9L xk xpc xhd xvl xi xh xl xt).toArray) Ls xvl s.x)

theorem Reads.chg {w w' : World} {v : Value} {xs : List Value} {S : Nat → Prop} (h : Reads w v xs) (k : Chg S w w') (hn : 0 < xs.length → ∀ g, v.ownBlock = some g → ¬ S g) : Reads w' v xs := by
  obtain h1 | ⟨ad, cap, rfl, h2, h3, h4⟩ := h
  · exact .inl h1
  · refine .inr ⟨ad, cap, rfl, h2, h3, fun i u hu => ?_⟩
    have hc := h4 i u hu
    have hpos : 0 < xs.length := by
      rcases Nat.eq_zero_or_pos xs.length with h | h
      · rw [List.length_eq_zero_iff.1 h] at hu; simp at hu
      · exact h
    have hb : (ad.add i).block = ad.block := by unfold Addr.add; split <;> rfl
    have hl := World.block_lt_of_cell? w _ hc
    rw [hb] at hl
    have := World.cell?_of_block (w := w) (w' := w') (a := ad.add i) (by rw [hb]; exact k.block ad.block hl (hn hpos _ rfl))
    rw [this]; exact hc

theorem R11.kept {w w' : World} {v tv xvl : Value} {Ls : List Int} {s : PM} (h : R11 w v Ls tv xvl s) (k : Kept w w') : R11 w' v Ls tv xvl s := by
  obtain ⟨h1, h2, kind, xk, xpc, xhd, xi, xh, xl, xt, h3, h4, h5, h6⟩ := h
  exact ⟨h1, h2, kind, xk, xpc, xhd, xi, xh, xl, xt, h3, h4.kept k, h5, fun e => (h6 e).kept k⟩

/-- The stack that is stepped is the same one, or a new one. -/
def XKeep (B : Nat) (s s' : PM) (xvl xvl' : Value) : Prop := (s'.pc = .spare ∨ s'.pc = .last) → ∀ g, xvl'.ownBlock = some g → ((s.pc = .spare ∨ s.pc = .last) ∧ xvl' = xvl) ∨ B ≤ g

theorem R11.chg {w w' : World} {v tv xvl : Value} {Ls : List Int} {s : PM} {S : Nat → Prop} (h : R11 w v Ls tv xvl s) (k : Chg S w w') (ht : 0 < s.tasks.length → ∀ g, tv.ownBlock = some g → ¬ S g) (hx : (s.pc = .spare ∨ s.pc = .last) → 0 < Ls.length → ∀ g, xvl.ownBlock = some g → ¬ S g) : R11 w' v Ls tv xvl s := by
  obtain ⟨h1, h2, kind, xk, xpc, xhd, xi, xh, xl, xt, h3, h4, h5, h6⟩ := h
  exact ⟨h1, h2, kind, xk, xpc, xhd, xi, xh, xl, xt, h3, h4.chg k (fun hp => ht (by simpa using hp)), h5, fun e => (h6 e).chg k (hx e)⟩

theorem R9.parts {w : World} {v vl : Value} {Ls : List Int} {s : SM} (h : R9 w v Ls vl s) : ∃ xk xt, v = .agg (r9L xk (pcN s.pc) s.head vl s.item s.h s.link xt).toArray := by
  obtain ⟨_, _, _, kind, tries, h4, _⟩ := h
  exact ⟨kind, tries, h4⟩

theorem pcN_zero {q : SPc} : pcN q = 0 ↔ q.fin = true := by cases q <;> simp [pcN, SPc.fin]

theorem agg_cells {a b : List Value} (h : Value.agg a.toArray = Value.agg b.toArray) : a = b := by simpa using h

theorem Reads.task {w : World} {to : Option Addr} {tn tc : Nat} {ts : List Int} (h : Reads w (.slice to tn tc) (ts.map (Value.int .u64))) {j : Nat} (hj : j < ts.length) : ∃ ad, to = some ad ∧ w.cell? (ad.add j) = some (.int .u64 (ts[j]?.getD 0)) := by
  obtain ⟨ad, cap, e, _, hc⟩ := h.get (i := j) (by simpa using hj)
  simp only [Value.slice.injEq] at e
  refine ⟨ad, e.1, ?_⟩
  rw [hc, List.getElem?_map, List.getElem?_eq_getElem hj]; rfl

set_option maxRecDepth 8000 in
set_option maxHeartbeats 3200000 in
theorem st11_done {c : Cfg} {mem : List Int} {s : PM} {a l v tv xvl : Value} (w : World) (_hg : Good c) (ha : MapV w c a) (h : R11 w v (linksL c) tv xvl s) (hm : MemV w l mem) (hall : ∀ x ∈ mem, U x) (_hlen : mem.length ≤ 20000) (hp : s.pc = .done) :
    Calls Tryz.prog 48 #[a, l, v] w fun e w' => ∃ l' v' xvl', e = .returned (.tuple #[l', v']) ∧ MemV w' l' (pmStep c mem s).1 ∧ R11 w' v' (linksL c) tv xvl' (pmStep c mem s).2 ∧ Kept w w' ∧ (∀ g, l'.ownBlock = some g → l' = l ∨ w.heap.size ≤ g) ∧ XKeep w.heap.size s (pmStep c mem s).2 xvl xvl' := by
  obtain ⟨pc, tasks, j, p, x⟩ := s
  simp only at hp
  subst hp
  obtain ⟨⟨hp0, hp1⟩, ⟨hj0, hj1⟩, kind, xk, xpc, xhd, xi, xh, xl, xt, rfl, htv, ⟨xo, xn, xc, rfl⟩, hx⟩ := h
  simp only [pcN11] at hp0 hp1 hj0 hj1 htv hx ⊢
  obtain ⟨to, tc, rfl⟩ := htv.form
  obtain ⟨tn, htn⟩ : ∃ tn, tn = (tasks.map (Value.int .u64)).length := ⟨_, rfl⟩
  rw [← htn] at htv ⊢
  have HTN : Hid (tn = tasks.length) := by rw [htn]; simp [Hid]
  clear htn
  obtain ⟨va, rfl, hT⟩ := ha
  obtain ⟨ao, acap, rfl, _⟩ := hT.ex
  have HV : Hid (∀ W, Kept w W → MapV W c (.agg #[.slice ao (allT c).length acap, .int .i64 (manyI c)])) := fun W k => ⟨_, rfl, hT.kept k⟩
  clear hT
  generalize (allT c).length = ln at *
  obtain ⟨mo, mc, hmv⟩ := hm.form
  obtain ⟨ml, hml⟩ : ∃ ml, ml = (mem.map (Value.int .u64)).length := ⟨_, rfl⟩
  rw [← hml] at hmv
  subst hmv
  clear hml
  have HM : Hid (∀ W, Kept w W → MemV W (.slice mo ml mc) mem) := fun W k => hm.kept k
  have HT : Hid (∀ W, Kept w W → Reads W (.slice to tn tc) (tasks.map (Value.int .u64))) := fun W k => htv.kept k
  have HA : Hid (∀ x ∈ mem, U x) := hall
  clear hm htv hall
  unfold pmStep
  simp only []
  clear hx
  have hA0 := Blk.new w 35 [.slice ao ln acap, .int .i64 (manyI c)]
  have hk0 : Kept w (w.alloc (.cells ([.slice ao ln acap, .int .i64 (manyI c)] : List Value).toArray 35)) := (Below.refl _ _).alloc (Nat.le_refl _) _
  have z0 : (w.alloc (.cells ([.slice ao ln acap, .int .i64 (manyI c)] : List Value).toArray 35)).heap.size = w.heap.size + 1 := by simp
  go_enter Tryz.func48, Tryz.ntmps48
  go_wp2_with fail
  generalize w.alloc (.cells ([.slice ao ln acap, .int .i64 (manyI c)] : List Value).toArray 35) = w1 at *
  have hb0 := Blk.new w1 57 [.int .i64 (kind), .int .i64 (0), .slice to tn tc, .int .i64 (j), .int .i64 (p), .int .i64 (xk), .int .i64 (xpc), .int .i64 (xhd), .slice xo xn xc, .int .u32 (xi), .int .u64 (xh), .int .u32 (xl), .int .i64 (xt)]
  rw [z0] at hb0
  have hk1 : Kept w1 (w1.alloc (.cells ([.int .i64 (kind), .int .i64 (0), .slice to tn tc, .int .i64 (j), .int .i64 (p), .int .i64 (xk), .int .i64 (xpc), .int .i64 (xhd), .slice xo xn xc, .int .u32 (xi), .int .u64 (xh), .int .u32 (xl), .int .i64 (xt)] : List Value).toArray 57)) := (Below.refl _ _).alloc (Nat.le_refl _) _
  have z1 : (w1.alloc (.cells ([.int .i64 (kind), .int .i64 (0), .slice to tn tc, .int .i64 (j), .int .i64 (p), .int .i64 (xk), .int .i64 (xpc), .int .i64 (xhd), .slice xo xn xc, .int .u32 (xi), .int .u64 (xh), .int .u32 (xl), .int .i64 (xt)] : List Value).toArray 57)).heap.size = w.heap.size + 2 := by simp [z0]
  generalize w1.alloc (.cells ([.int .i64 (kind), .int .i64 (0), .slice to tn tc, .int .i64 (j), .int .i64 (p), .int .i64 (xk), .int .i64 (xpc), .int .i64 (xhd), .slice xo xn xc, .int .u32 (xi), .int .u64 (xh), .int .u32 (xl), .int .i64 (xt)] : List Value).toArray 57) = w2 at *
  have hr0 := Blk.new w2 57 [.int .i64 0, .int .i64 0, .slice none 0 0, .int .i64 0, .int .i64 0, .int .i64 0, .int .i64 0, .int .i64 0, .slice none 0 0, .int .u32 0, .int .u64 0, .int .u32 0, .int .i64 0]
  rw [z1] at hr0
  have hk2 : Kept w2 (w2.alloc (.cells ([.int .i64 0, .int .i64 0, .slice none 0 0, .int .i64 0, .int .i64 0, .int .i64 0, .int .i64 0, .int .i64 0, .slice none 0 0, .int .u32 0, .int .u64 0, .int .u32 0, .int .i64 0] : List Value).toArray 57)) := (Below.refl _ _).alloc (Nat.le_refl _) _
  have z2 : (w2.alloc (.cells ([.int .i64 0, .int .i64 0, .slice none 0 0, .int .i64 0, .int .i64 0, .int .i64 0, .int .i64 0, .int .i64 0, .slice none 0 0, .int .u32 0, .int .u64 0, .int .u32 0, .int .i64 0] : List Value).toArray 57)).heap.size = w.heap.size + 3 := by simp [z1]
  generalize w2.alloc (.cells ([.int .i64 0, .int .i64 0, .slice none 0 0, .int .i64 0, .int .i64 0, .int .i64 0, .int .i64 0, .int .i64 0, .slice none 0 0, .int .u32 0, .int .u64 0, .int .u32 0, .int .i64 0] : List Value).toArray 57) = w3 at *
  have hA := hk2.blk (hk1.blk hA0)
  have hb := hk2.blk hb0
  have hr := hr0
  have hk : Kept w w3 := (hk0.trans' hk1).trans' hk2
  clear hA0 hb0 hr0 hk0 hk1 hk2 z0 z1
  have b0 := hb.cell 0
  have b1 := hb.cell 1
  have b2 := hb.cell 2
  have b3 := hb.cell 3
  have b4 := hb.cell 4
  have b5 := hb.cell 5
  have b6 := hb.cell 6
  have b7 := hb.cell 7
  have b8 := hb.cell 8
  have b9 := hb.cell 9
  have b10 := hb.cell 10
  have b11 := hb.cell 11
  have b12 := hb.cell 12
  simp only [List.getElem?_cons_zero, List.getElem?_cons_succ] at b0 b1 b2 b3 b4 b5 b6 b7 b8 b9 b10 b11 b12
  have r0 := hr.cell 0
  have r1 := hr.cell 1
  have r2 := hr.cell 2
  have r3 := hr.cell 3
  have r4 := hr.cell 4
  have r5 := hr.cell 5
  have r6 := hr.cell 6
  have r7 := hr.cell 7
  have r8 := hr.cell 8
  have r9 := hr.cell 9
  have r10 := hr.cell 10
  have r11 := hr.cell 11
  have r12 := hr.cell 12
  have fr0 := hr.free 0
  have fr1 := hr.free 1
  have fr2 := hr.free 2
  have fr3 := hr.free 3
  have fr4 := hr.free 4
  have fr5 := hr.free 5
  have fr6 := hr.free 6
  have fr7 := hr.free 7
  have fr8 := hr.free 8
  have fr9 := hr.free 9
  have fr10 := hr.free 10
  have fr11 := hr.free 11
  have fr12 := hr.free 12
  simp only [List.getElem?_cons_zero, List.getElem?_cons_succ] at r0 r1 r2 r3 r4 r5 r6 r7 r8 r9 r10 r11 r12
  have hbD := hb.drew
  have hrD := hr.drew
  have d0 := hbD.cell 0
  have d1 := hbD.cell 1
  have d2 := hbD.cell 2
  have d3 := hbD.cell 3
  have d4 := hbD.cell 4
  have d5 := hbD.cell 5
  have d6 := hbD.cell 6
  have d7 := hbD.cell 7
  have d8 := hbD.cell 8
  have d9 := hbD.cell 9
  have d10 := hbD.cell 10
  have d11 := hbD.cell 11
  have d12 := hbD.cell 12
  simp only [List.getElem?_cons_zero, List.getElem?_cons_succ] at d0 d1 d2 d3 d4 d5 d6 d7 d8 d9 d10 d11 d12
  have s0 := hrD.cell 0
  have s1 := hrD.cell 1
  have s2 := hrD.cell 2
  have s3 := hrD.cell 3
  have s4 := hrD.cell 4
  have s5 := hrD.cell 5
  have s6 := hrD.cell 6
  have s7 := hrD.cell 7
  have s8 := hrD.cell 8
  have s9 := hrD.cell 9
  have s10 := hrD.cell 10
  have s11 := hrD.cell 11
  have s12 := hrD.cell 12
  have fs0 := hrD.free 0
  have fs1 := hrD.free 1
  have fs2 := hrD.free 2
  have fs3 := hrD.free 3
  have fs4 := hrD.free 4
  have fs5 := hrD.free 5
  have fs6 := hrD.free 6
  have fs7 := hrD.free 7
  have fs8 := hrD.free 8
  have fs9 := hrD.free 9
  have fs10 := hrD.free 10
  have fs11 := hrD.free 11
  have fs12 := hrD.free 12
  simp only [List.getElem?_cons_zero, List.getElem?_cons_succ] at s0 s1 s2 s3 s4 s5 s6 s7 s8 s9 s10 s11 s12
  go_wp2_with fail
  go_region
  have hr9 : Blk ((((((((((((((w3.setCell ⟨w.heap.size + 2, 0, none⟩ (.int .i64 (kind))).setCell ⟨w.heap.size + 2, 1, none⟩ (.int .i64 (0))).setCell ⟨w.heap.size + 2, 2, none⟩ (.slice to tn tc)).setCell ⟨w.heap.size + 2, 3, none⟩ (.int .i64 (j))).setCell ⟨w.heap.size + 2, 4, none⟩ (.int .i64 (p))).setCell ⟨w.heap.size + 2, 5, none⟩ (.int .i64 (xk))).setCell ⟨w.heap.size + 2, 6, none⟩ (.int .i64 (xpc))).setCell ⟨w.heap.size + 2, 7, none⟩ (.int .i64 (xhd))).setCell ⟨w.heap.size + 2, 8, none⟩ (.slice xo xn xc)).setCell ⟨w.heap.size + 2, 9, none⟩ (.int .u32 (xi))).setCell ⟨w.heap.size + 2, 10, none⟩ (.int .u64 (xh))).setCell ⟨w.heap.size + 2, 11, none⟩ (.int .u32 (xl))).setCell ⟨w.heap.size + 2, 12, none⟩ (.int .i64 (xt)))).drew (w.heap.size + 2) 57 [.int .i64 (kind), .int .i64 (0), .slice to tn tc, .int .i64 (j), .int .i64 (p), .int .i64 (xk), .int .i64 (xpc), .int .i64 (xhd), .slice xo xn xc, .int .u32 (xi), .int .u64 (xh), .int .u32 (xl), .int .i64 (xt)] := ((((((((((((((hr.set' 0 (.int .i64 (kind)) rfl).set' 1 (.int .i64 (0)) rfl).set' 2 (.slice to tn tc) rfl).set' 3 (.int .i64 (j)) rfl).set' 4 (.int .i64 (p)) rfl).set' 5 (.int .i64 (xk)) rfl).set' 6 (.int .i64 (xpc)) rfl).set' 7 (.int .i64 (xhd)) rfl).set' 8 (.slice xo xn xc) rfl).set' 9 (.int .u32 (xi)) rfl).set' 10 (.int .u64 (xh)) rfl).set' 11 (.int .u32 (xl)) rfl).set' 12 (.int .i64 (xt)) rfl)).drew
  have hk9 : Kept w ((((((((((((((w3.setCell ⟨w.heap.size + 2, 0, none⟩ (.int .i64 (kind))).setCell ⟨w.heap.size + 2, 1, none⟩ (.int .i64 (0))).setCell ⟨w.heap.size + 2, 2, none⟩ (.slice to tn tc)).setCell ⟨w.heap.size + 2, 3, none⟩ (.int .i64 (j))).setCell ⟨w.heap.size + 2, 4, none⟩ (.int .i64 (p))).setCell ⟨w.heap.size + 2, 5, none⟩ (.int .i64 (xk))).setCell ⟨w.heap.size + 2, 6, none⟩ (.int .i64 (xpc))).setCell ⟨w.heap.size + 2, 7, none⟩ (.int .i64 (xhd))).setCell ⟨w.heap.size + 2, 8, none⟩ (.slice xo xn xc)).setCell ⟨w.heap.size + 2, 9, none⟩ (.int .u32 (xi))).setCell ⟨w.heap.size + 2, 10, none⟩ (.int .u64 (xh))).setCell ⟨w.heap.size + 2, 11, none⟩ (.int .u32 (xl))).setCell ⟨w.heap.size + 2, 12, none⟩ (.int .i64 (xt)))).drew := Below.drew (Below.setCell (Below.setCell (Below.setCell (Below.setCell (Below.setCell (Below.setCell (Below.setCell (Below.setCell (Below.setCell (Below.setCell (Below.setCell (Below.setCell (Below.setCell hk (p := ⟨w.heap.size + 2, 0, none⟩) (by simp) _) (p := ⟨w.heap.size + 2, 1, none⟩) (by simp) _) (p := ⟨w.heap.size + 2, 2, none⟩) (by simp) _) (p := ⟨w.heap.size + 2, 3, none⟩) (by simp) _) (p := ⟨w.heap.size + 2, 4, none⟩) (by simp) _) (p := ⟨w.heap.size + 2, 5, none⟩) (by simp) _) (p := ⟨w.heap.size + 2, 6, none⟩) (by simp) _) (p := ⟨w.heap.size + 2, 7, none⟩) (by simp) _) (p := ⟨w.heap.size + 2, 8, none⟩) (by simp) _) (p := ⟨w.heap.size + 2, 9, none⟩) (by simp) _) (p := ⟨w.heap.size + 2, 10, none⟩) (by simp) _) (p := ⟨w.heap.size + 2, 11, none⟩) (by simp) _) (p := ⟨w.heap.size + 2, 12, none⟩) (by simp) _)
  generalize ((((((((((((((w3.setCell ⟨w.heap.size + 2, 0, none⟩ (.int .i64 (kind))).setCell ⟨w.heap.size + 2, 1, none⟩ (.int .i64 (0))).setCell ⟨w.heap.size + 2, 2, none⟩ (.slice to tn tc)).setCell ⟨w.heap.size + 2, 3, none⟩ (.int .i64 (j))).setCell ⟨w.heap.size + 2, 4, none⟩ (.int .i64 (p))).setCell ⟨w.heap.size + 2, 5, none⟩ (.int .i64 (xk))).setCell ⟨w.heap.size + 2, 6, none⟩ (.int .i64 (xpc))).setCell ⟨w.heap.size + 2, 7, none⟩ (.int .i64 (xhd))).setCell ⟨w.heap.size + 2, 8, none⟩ (.slice xo xn xc)).setCell ⟨w.heap.size + 2, 9, none⟩ (.int .u32 (xi))).setCell ⟨w.heap.size + 2, 10, none⟩ (.int .u64 (xh))).setCell ⟨w.heap.size + 2, 11, none⟩ (.int .u32 (xl))).setCell ⟨w.heap.size + 2, 12, none⟩ (.int .i64 (xt)))).drew = w9 at *
  clear b0 b1 b2 b3 b4 b5 b6 b7 b8 b9 b10 b11 b12  r0 r1 r2 r3 r4 r5 r6 r7 r8 r9 r10 r11 r12 fr0 fr1 fr2 fr3 fr4 fr5 fr6 fr7 fr8 fr9 fr10 fr11 fr12 d0 d1 d2 d3 d4 d5 d6 d7 d8 d9 d10 d11 d12  s0 s1 s2 s3 s4 s5 s6 s7 s8 s9 s10 s11 s12 fs0 fs1 fs2 fs3 fs4 fs5 fs6 fs7 fs8 fs9 fs10 fs11 fs12
  have k0 := hr9.cell 0
  have k1 := hr9.cell 1
  have k2 := hr9.cell 2
  have k3 := hr9.cell 3
  have k4 := hr9.cell 4
  have k5 := hr9.cell 5
  have k6 := hr9.cell 6
  have k7 := hr9.cell 7
  have k8 := hr9.cell 8
  have k9 := hr9.cell 9
  have k10 := hr9.cell 10
  have k11 := hr9.cell 11
  have k12 := hr9.cell 12
  simp only [List.getElem?_cons_zero, List.getElem?_cons_succ] at k0 k1 k2 k3 k4 k5 k6 k7 k8 k9 k10 k11 k12
  go_wp2_with fail
  exact bodyPost_ret (v := .tuple #[.slice mo ml mc, .agg ([.int .i64 (kind), .int .i64 (0), .slice to tn tc, .int .i64 (j), .int .i64 (p), .int .i64 (xk), .int .i64 (xpc), .int .i64 (xhd), .slice xo xn xc, .int .u32 (xi), .int .u64 (xh), .int .u32 (xl), .int .i64 (xt)] : List Value).toArray]) (by simp [results, Tryz.results48, go_sem, k0, k1, k2, k3, k4, k5, k6, k7, k8, k9, k10, k11, k12]) rfl ⟨_, _, _, rfl, HM.out _ hk9, ⟨⟨hp0, hp1⟩, ⟨hj0, hj1⟩, kind, xk, xpc, xhd, xi, xh, xl, xt, rfl, HT.out _ hk9, ⟨xo, xn, xc, rfl⟩, fun e => by rcases e with e | e <;> cases e⟩, hk9, fun g e => .inl rfl, (by first | (intro e; rcases e with e | e <;> cases e; done) | (intro _ g _; exact .inl ⟨by simp, rfl⟩))⟩

set_option maxRecDepth 8000 in
set_option maxHeartbeats 3200000 in
theorem st11_fill1 {c : Cfg} {mem : List Int} {s : PM} {a l v tv xvl : Value} (w : World) (hg : Good c) (ha : MapV w c a) (h : R11 w v (linksL c) tv xvl s) (hm : MemV w l mem) (hall : ∀ x ∈ mem, U x) (hlen : mem.length ≤ 20000) (hp : s.pc = .fill) (hjl : s.j < s.tasks.length) (hjn : s.j + 1 = s.tasks.length) :
    Calls Tryz.prog 48 #[a, l, v] w fun e w' => ∃ l' v' xvl', e = .returned (.tuple #[l', v']) ∧ MemV w' l' (pmStep c mem s).1 ∧ R11 w' v' (linksL c) tv xvl' (pmStep c mem s).2 ∧ Kept w w' ∧ (∀ g, l'.ownBlock = some g → l' = l ∨ w.heap.size ≤ g) ∧ XKeep w.heap.size s (pmStep c mem s).2 xvl xvl' := by
  obtain ⟨pc, tasks, j, p, x⟩ := s
  simp only at hp
  subst hp
  obtain ⟨⟨hp0, hp1⟩, ⟨hj0, hj1⟩, kind, xk, xpc, xhd, xi, xh, xl, xt, rfl, htv, ⟨xo, xn, xc, rfl⟩, hx⟩ := h
  simp only [pcN11] at hp0 hp1 hj0 hj1 htv hx ⊢
  obtain ⟨to, tc, rfl⟩ := htv.form
  obtain ⟨tn, htn⟩ : ∃ tn, tn = (tasks.map (Value.int .u64)).length := ⟨_, rfl⟩
  rw [← htn] at htv ⊢
  have HTN : Hid (tn = tasks.length) := by rw [htn]; simp [Hid]
  clear htn
  obtain ⟨va, rfl, hT⟩ := ha
  obtain ⟨ao, acap, rfl, _⟩ := hT.ex
  have HV : Hid (∀ W, Kept w W → MapV W c (.agg #[.slice ao (allT c).length acap, .int .i64 (manyI c)])) := fun W k => ⟨_, rfl, hT.kept k⟩
  clear hT
  generalize (allT c).length = ln at *
  obtain ⟨mo, mc, hmv⟩ := hm.form
  obtain ⟨ml, hml⟩ : ∃ ml, ml = (mem.map (Value.int .u64)).length := ⟨_, rfl⟩
  rw [← hml] at hmv
  subst hmv
  clear hml
  have HM : Hid (∀ W, Kept w W → MemV W (.slice mo ml mc) mem) := fun W k => hm.kept k
  have HT : Hid (∀ W, Kept w W → Reads W (.slice to tn tc) (tasks.map (Value.int .u64))) := fun W k => htv.kept k
  have HA : Hid (∀ x ∈ mem, U x) := hall
  clear hm htv hall
  simp only at hjl hjn
  unfold pmStep pmFill
  simp only []
  clear hx
  rw [if_pos hjn]
  have HJN : Hid (j + 1 = tasks.length) := hjn
  have hq : ((j : Int) + 1 == (tn : Int)) = true := by have := HTN.out; simp; omega
  have hq2 : (j : Int) + 1 = tn := by have := HTN.out; omega
  clear hjn
  obtain ⟨ad, rfl, hc⟩ := (HT.out w (Below.refl _ _)).task hjl
  obtain ⟨x0, hx0⟩ : ∃ x0, tasks[j]?.getD 0 = x0 := ⟨_, rfl⟩
  rw [hx0] at hc ⊢
  have HP : Hid (placeT c ⟨13, p, j⟩ = pTask c p j) := place_task hg p j
  have hjt : (j : Int) < tn := by have := HTN.out; omega
  have hj00 : (0 : Int) ≤ j := by omega
  have HJT : Hid (j < tasks.length) := hjl
  have hadl : (ad.add j).block < w.heap.size := World.block_lt_of_cell? w _ hc
  clear hx0 hjl
  clear hq2
  have hA0 := Blk.new w 35 [.slice ao ln acap, .int .i64 (manyI c)]
  have hk0 : Kept w (w.alloc (.cells ([.slice ao ln acap, .int .i64 (manyI c)] : List Value).toArray 35)) := (Below.refl _ _).alloc (Nat.le_refl _) _
  have z0 : (w.alloc (.cells ([.slice ao ln acap, .int .i64 (manyI c)] : List Value).toArray 35)).heap.size = w.heap.size + 1 := by simp
  go_enter Tryz.func48, Tryz.ntmps48
  go_wp2_with fail
  generalize w.alloc (.cells ([.slice ao ln acap, .int .i64 (manyI c)] : List Value).toArray 35) = w1 at *
  have hb0 := Blk.new w1 57 [.int .i64 (kind), .int .i64 (2), .slice (some ad) tn tc, .int .i64 (j), .int .i64 (p), .int .i64 (xk), .int .i64 (xpc), .int .i64 (xhd), .slice xo xn xc, .int .u32 (xi), .int .u64 (xh), .int .u32 (xl), .int .i64 (xt)]
  rw [z0] at hb0
  have hk1 : Kept w1 (w1.alloc (.cells ([.int .i64 (kind), .int .i64 (2), .slice (some ad) tn tc, .int .i64 (j), .int .i64 (p), .int .i64 (xk), .int .i64 (xpc), .int .i64 (xhd), .slice xo xn xc, .int .u32 (xi), .int .u64 (xh), .int .u32 (xl), .int .i64 (xt)] : List Value).toArray 57)) := (Below.refl _ _).alloc (Nat.le_refl _) _
  have z1 : (w1.alloc (.cells ([.int .i64 (kind), .int .i64 (2), .slice (some ad) tn tc, .int .i64 (j), .int .i64 (p), .int .i64 (xk), .int .i64 (xpc), .int .i64 (xhd), .slice xo xn xc, .int .u32 (xi), .int .u64 (xh), .int .u32 (xl), .int .i64 (xt)] : List Value).toArray 57)).heap.size = w.heap.size + 2 := by simp [z0]
  generalize w1.alloc (.cells ([.int .i64 (kind), .int .i64 (2), .slice (some ad) tn tc, .int .i64 (j), .int .i64 (p), .int .i64 (xk), .int .i64 (xpc), .int .i64 (xhd), .slice xo xn xc, .int .u32 (xi), .int .u64 (xh), .int .u32 (xl), .int .i64 (xt)] : List Value).toArray 57) = w2 at *
  have hr0 := Blk.new w2 57 [.int .i64 0, .int .i64 0, .slice none 0 0, .int .i64 0, .int .i64 0, .int .i64 0, .int .i64 0, .int .i64 0, .slice none 0 0, .int .u32 0, .int .u64 0, .int .u32 0, .int .i64 0]
  rw [z1] at hr0
  have hk2 : Kept w2 (w2.alloc (.cells ([.int .i64 0, .int .i64 0, .slice none 0 0, .int .i64 0, .int .i64 0, .int .i64 0, .int .i64 0, .int .i64 0, .slice none 0 0, .int .u32 0, .int .u64 0, .int .u32 0, .int .i64 0] : List Value).toArray 57)) := (Below.refl _ _).alloc (Nat.le_refl _) _
  have z2 : (w2.alloc (.cells ([.int .i64 0, .int .i64 0, .slice none 0 0, .int .i64 0, .int .i64 0, .int .i64 0, .int .i64 0, .int .i64 0, .slice none 0 0, .int .u32 0, .int .u64 0, .int .u32 0, .int .i64 0] : List Value).toArray 57)).heap.size = w.heap.size + 3 := by simp [z1]
  generalize w2.alloc (.cells ([.int .i64 0, .int .i64 0, .slice none 0 0, .int .i64 0, .int .i64 0, .int .i64 0, .int .i64 0, .int .i64 0, .slice none 0 0, .int .u32 0, .int .u64 0, .int .u32 0, .int .i64 0] : List Value).toArray 57) = w3 at *
  have hA := hk2.blk (hk1.blk hA0)
  have hb := hk2.blk hb0
  have hr := hr0
  have hk : Kept w w3 := (hk0.trans' hk1).trans' hk2
  clear hA0 hb0 hr0 hk0 hk1 hk2 z0 z1
  have hbD := hb.drew
  have hAD := hA.drew
  have hrD := hr.drew
  have hkD : Kept w w3.drew := hk.drew
  have d0 := hbD.cell 0
  have d1 := hbD.cell 1
  have d2 := hbD.cell 2
  have d3 := hbD.cell 3
  have d4 := hbD.cell 4
  have d5 := hbD.cell 5
  have d6 := hbD.cell 6
  have d7 := hbD.cell 7
  have d8 := hbD.cell 8
  have d9 := hbD.cell 9
  have d10 := hbD.cell 10
  have d11 := hbD.cell 11
  have d12 := hbD.cell 12
  simp only [List.getElem?_cons_zero, List.getElem?_cons_succ] at d0 d1 d2 d3 d4 d5 d6 d7 d8 d9 d10 d11 d12
  have a0 := hAD.cell 0
  have a1 := hAD.cell 1
  simp only [List.getElem?_cons_zero, List.getElem?_cons_succ] at a0 a1
  have dc : w3.drew.cell? (ad.add j) = some (.int .u64 x0) := by rw [Below.cell hkD hadl]; exact hc
  go_wp2_with fail
  refine wp_region_z 14 (fun w' => w'.cell? ⟨w.heap.size, 0, none⟩ = some (.slice ao ln acap) ∧ w'.cell? ⟨w.heap.size, 1, none⟩ = some (.int .i64 (manyI c)) ∧ w'.cell? ⟨w.heap.size + 1, 2, none⟩ = some (.slice (some ad) tn tc) ∧ w'.cell? ⟨w.heap.size + 1, 3, none⟩ = some (.int .i64 j) ∧ w'.cell? ⟨w.heap.size + 1, 4, none⟩ = some (.int .i64 p) ∧ w'.cell? (ad.add j) = some (.int .u64 x0)) (by kernel_rfl) ?_
  refine wpAnyZ_take (i := 0) (v := ?v0z7) rfl (by kernel_rfl) (by kernel_rfl) (by kernel_rfl) (by kernel_rfl) (fun _ _ _ h => h) (Or.inl ⟨by rfl, ?hy0z7⟩) ⟨a0,a1,d2,d3,d4,dc⟩ ?_
  case hy0z7 => intro w hSw; (try dsimp only at hSw); first | (go_simp; done) | (go_simp; with_reducible rfl)
  try simp only [Act.put, List.setIfInBounds_toArray]
  refine wpAnyZ_take (i := 1) (v := ?v1z7) rfl (by kernel_rfl) (by kernel_rfl) (by kernel_rfl) (by kernel_rfl) (fun _ _ _ h => h) (Or.inl ⟨by rfl, ?hy1z7⟩) ⟨a0,a1,d2,d3,d4,dc⟩ ?_
  case hy1z7 => intro w hSw; (try dsimp only at hSw); first | (go_simp; done) | (go_simp; with_reducible rfl)
  try simp only [Act.put]
  refine wpAnyZ_take (i := 2) (v := ?v2z7) rfl (by kernel_rfl) (by kernel_rfl) (by kernel_rfl) (by kernel_rfl) (fun _ _ _ h => h) (Or.inl ⟨by rfl, ?hy2z7⟩) ⟨a0,a1,d2,d3,d4,dc⟩ ?_
  case hy2z7 => intro w hSw; (try dsimp only at hSw); first | (go_simp; done) | (go_simp; with_reducible rfl)
  try simp only [Act.put]
  refine wpAnyZ_take (i := 3) (v := ?v3z7) rfl (by kernel_rfl) (by kernel_rfl) (by kernel_rfl) (by kernel_rfl) (fun _ _ _ h => h) (Or.inl ⟨by rfl, ?hy3z7⟩) ⟨a0,a1,d2,d3,d4,dc⟩ ?_
  case hy3z7 => intro w hSw; (try dsimp only at hSw); first | (go_simp; done) | (go_simp; with_reducible rfl)
  try simp only [Act.put]
  refine wpAnyZ_take (i := 4) (v := ?v4z7) rfl (by kernel_rfl) (by kernel_rfl) (by kernel_rfl) (by kernel_rfl) (fun _ _ _ h => h) (Or.inl ⟨by rfl, ?hy4z7⟩) ⟨a0,a1,d2,d3,d4,dc⟩ ?_
  case hy4z7 => intro w hSw; (try dsimp only at hSw); first | (go_simp; done) | (go_simp; with_reducible rfl)
  try simp only [Act.put]
  refine wpAnyZ_take (i := 5) (v := ?v5z7) rfl (by kernel_rfl) (by kernel_rfl) (by kernel_rfl) (by kernel_rfl) (fun _ _ _ h => h) (Or.inl ⟨by rfl, ?hy5z7⟩) ⟨a0,a1,d2,d3,d4,dc⟩ ?_
  case hy5z7 => intro w hSw; (try dsimp only at hSw); first | (go_simp; done) | (go_simp; with_reducible rfl)
  try simp only [Act.put]
  refine wpAnyZ_take (i := 7) (v := ?v7z7) rfl (by kernel_rfl) (by kernel_rfl) (by kernel_rfl) (by kernel_rfl) (fun _ _ _ h => h) (Or.inl ⟨by rfl, ?hy7z7⟩) ⟨a0,a1,d2,d3,d4,dc⟩ ?_
  case hy7z7 => intro w hSw; (try dsimp only at hSw); first | (go_simp; done) | (go_simp; with_reducible rfl)
  try simp only [Act.put]
  refine wpAnyZ_take (i := 8) (v := ?v8z7) rfl (by kernel_rfl) (by kernel_rfl) (by kernel_rfl) (by kernel_rfl) (fun _ _ _ h => h) (Or.inl ⟨by rfl, ?hy8z7⟩) ⟨a0,a1,d2,d3,d4,dc⟩ ?_
  case hy8z7 => intro w hSw; (try dsimp only at hSw); first | (go_simp; done) | (go_simp; with_reducible rfl)
  try simp only [Act.put]
  refine wpAnyZ_take (i := 9) (v := ?v9z7) rfl (by kernel_rfl) (by kernel_rfl) (by kernel_rfl) (by kernel_rfl) (fun _ _ _ h => h) (Or.inl ⟨by rfl, ?hy9z7⟩) ⟨a0,a1,d2,d3,d4,dc⟩ ?_
  case hy9z7 => intro w hSw; (try dsimp only at hSw); first | (go_simp; done) | (go_simp; with_reducible rfl)
  try simp only [Act.put]
  refine wpAnyZ_take (i := 10) (v := ?v10z7) rfl (by kernel_rfl) (by kernel_rfl) (by kernel_rfl) (by kernel_rfl) (fun _ _ _ h => h) (Or.inl ⟨by rfl, ?hy10z7⟩) ⟨a0,a1,d2,d3,d4,dc⟩ ?_
  case hy10z7 => intro w hSw; (try dsimp only at hSw); first | (go_simp; done) | (go_simp; with_reducible rfl)
  try simp only [Act.put]
  refine wpAnyZ_take (i := 11) (v := ?v11z7) rfl (by kernel_rfl) (by kernel_rfl) (by kernel_rfl) (by kernel_rfl) (fun _ _ _ h => h) (Or.inl ⟨by rfl, ?hy11z7⟩) ⟨a0,a1,d2,d3,d4,dc⟩ ?_
  case hy11z7 => intro w hSw; (try dsimp only at hSw); first | (go_simp; done) | (go_simp; with_reducible rfl)
  try simp only [Act.put]
  refine wpAnyZ_take (i := 12) (v := ?v12z7) rfl (by kernel_rfl) (by kernel_rfl) (by kernel_rfl) (by kernel_rfl) (fun _ _ _ h => h) (Or.inl ⟨by rfl, ?hy12z7⟩) ⟨a0,a1,d2,d3,d4,dc⟩ ?_
  case hy12z7 => intro w hSw; (try dsimp only at hSw); first | (go_simp; done) | (go_simp; with_reducible rfl)
  try simp only [Act.put]
  refine wpAnyZ_one (i := 6) (by kernel_rfl) rfl (fun K hK => ?_)
  go_simp
  go_at_call 54
  refine (at_ref 13 p j _ (HV.out _ hkD)).mono ?_; rintro e w5 ⟨rfl, hkc⟩
  rw [HP.out]
  have hb5 := hkc.blk hbD
  have hA5 := hkc.blk hAD
  have hr5 := hkc.blk hrD
  have hk5 := Kept.trans' hkD hkc
  have e0 := hb5.cell 0
  have e1 := hb5.cell 1
  have e2 := hb5.cell 2
  have e3 := hb5.cell 3
  have e4 := hb5.cell 4
  have e5 := hb5.cell 5
  have e6 := hb5.cell 6
  have e7 := hb5.cell 7
  have e8 := hb5.cell 8
  have e9 := hb5.cell 9
  have e10 := hb5.cell 10
  have e11 := hb5.cell 11
  have e12 := hb5.cell 12
  simp only [List.getElem?_cons_zero, List.getElem?_cons_succ] at e0 e1 e2 e3 e4 e5 e6 e7 e8 e9 e10 e11 e12
  have g0 := hA5.cell 0
  have g1 := hA5.cell 1
  simp only [List.getElem?_cons_zero, List.getElem?_cons_succ] at g0 g1
  have ec : w5.cell? (ad.add j) = some (.int .u64 x0) := by rw [Below.cell hk5 hadl]; exact hc
  refine hK.out _ _ (fun _ => ⟨g0,g1,e2,e3,e4,ec⟩) ?_
  clear hK K
  try simp only [Act.put, List.setIfInBounds_toArray, List.set_cons_zero, List.set_cons_succ]
  refine wpAnyZ_one (i := 13) (by kernel_rfl) rfl (fun K hK => ?_)
  go_simp
  go_at_call 22
  refine (putL_ref (pTask c p j) x0 _ (HM.out _ hk5) hlen).mono ?_; rintro e w6 ⟨l', rfl, hl', hkc6, hown⟩
  have hb6 := hkc6.blk hb5
  have hA6 := hkc6.blk hA5
  have hr6 := hkc6.blk hr5
  have hk6 := Kept.trans' hk5 hkc6
  have z5 : w.heap.size + 2 < w5.heap.size := hr5.lt
  have m0 := hb6.cell 0
  have m1 := hb6.cell 1
  have m2 := hb6.cell 2
  have m3 := hb6.cell 3
  have m4 := hb6.cell 4
  have m5 := hb6.cell 5
  have m6 := hb6.cell 6
  have m7 := hb6.cell 7
  have m8 := hb6.cell 8
  have m9 := hb6.cell 9
  have m10 := hb6.cell 10
  have m11 := hb6.cell 11
  have m12 := hb6.cell 12
  simp only [List.getElem?_cons_zero, List.getElem?_cons_succ] at m0 m1 m2 m3 m4 m5 m6 m7 m8 m9 m10 m11 m12
  have n0 := hA6.cell 0
  have n1 := hA6.cell 1
  simp only [List.getElem?_cons_zero, List.getElem?_cons_succ] at n0 n1
  have nc : w6.cell? (ad.add j) = some (.int .u64 x0) := by rw [Below.cell hk6 hadl]; exact hc
  refine hK.out _ _ (fun _ => ⟨n0,n1,m2,m3,m4,nc⟩) ?_
  clear hK K
  try simp only [Act.put, List.setIfInBounds_toArray, List.set_cons_zero, List.set_cons_succ]
  refine wpAnyZ_one (i := 14) (by kernel_rfl) rfl (fun K hK => ?_)
  go_simp
  refine hK.out _ _ (fun h => absurd rfl h) ?_
  refine wpAnyZ_done (by kernel_rfl) ?_ _
  clear hK K
  clear d0 d1 d2 d3 d4 d5 d6 d7 d8 d9 d10 d11 d12 a0 a1 e0 e1 e2 e3 e4 e5 e6 e7 e8 e9 e10 e11 e12 g0 g1 m0 m1 m2 m3 m4 m5 m6 m7 m8 m9 m10 m11 m12 n0 n1  dc ec nc hb hA hr hk hbD hAD hrD hb5 hA5 hr5 hkc hkc6 hkD
  have hb := hb6
  have hA := hA6
  have hr := hr6
  have hk := hk6
  clear hb6 hA6 hr6 hk6
  have hcL : Chg (fun q => q = w.heap.size + 1 ∨ q = w.heap.size + 2) w6 w6 := Chg.refl _ _
  have yj : IntKind.i64.wrap ((j : Int) + 1) = j + 1 := IntWalk.i64_in _ (by omega)
  have b0 := hb.cell 0
  have b1 := hb.cell 1
  have b2 := hb.cell 2
  have b3 := hb.cell 3
  have b4 := hb.cell 4
  have b5 := hb.cell 5
  have b6 := hb.cell 6
  have b7 := hb.cell 7
  have b8 := hb.cell 8
  have b9 := hb.cell 9
  have b10 := hb.cell 10
  have b11 := hb.cell 11
  have b12 := hb.cell 12
  have fb1 := hb.free 1
  have fb3 := hb.free 3
  simp only [List.getElem?_cons_zero, List.getElem?_cons_succ] at b0 b1 b2 b3 b4 b5 b6 b7 b8 b9 b10 b11 b12
  go_wp2_with fail
  clear b0 b1 b2 b3 b4 b5 b6 b7 b8 b9 b10 b11 b12 fb1 fb3
  have hb7 : Blk ((w6.setCell ⟨w.heap.size + 1, 3, none⟩ (.int .i64 ((j : Int) + 1))).setCell ⟨w.heap.size + 1, 1, none⟩ (.int .i64 (3))) (w.heap.size + 1) 57 [.int .i64 (kind), .int .i64 (3), .slice (some ad) tn tc, .int .i64 ((j : Int) + 1), .int .i64 (p), .int .i64 (xk), .int .i64 (xpc), .int .i64 (xhd), .slice xo xn xc, .int .u32 (xi), .int .u64 (xh), .int .u32 (xl), .int .i64 (xt)] := ((hb.set' 3 (.int .i64 ((j : Int) + 1)) rfl).set' 1 (.int .i64 (3)) rfl)
  have hcx := (((Chg.refl (fun q => q = w.heap.size + 1) w6).setCell ⟨w.heap.size + 1, 3, none⟩ (.int .i64 ((j : Int) + 1)) (fun _ => rfl)).setCell ⟨w.heap.size + 1, 1, none⟩ (.int .i64 (3)) (fun _ => rfl))
  replace hr := hcx.blk hr (by simp)
  replace hA := hcx.blk hA (by simp)
  replace hcL := hcL.trans (hcx.mono (fun q _ e => .inl e))
  replace hk := Below.trans hk (hcx.toBelow (B := w.heap.size) (by have := hk.size; omega) (fun q hq e => by omega))
  generalize ((w6.setCell ⟨w.heap.size + 1, 3, none⟩ (.int .i64 ((j : Int) + 1))).setCell ⟨w.heap.size + 1, 1, none⟩ (.int .i64 (3))) = w7 at *
  clear hcx hb
  have hb := hb7
  clear hb7
  have b0 := hb.cell 0
  have b1 := hb.cell 1
  have b2 := hb.cell 2
  have b3 := hb.cell 3
  have b4 := hb.cell 4
  have b5 := hb.cell 5
  have b6 := hb.cell 6
  have b7 := hb.cell 7
  have b8 := hb.cell 8
  have b9 := hb.cell 9
  have b10 := hb.cell 10
  have b11 := hb.cell 11
  have b12 := hb.cell 12
  simp only [List.getElem?_cons_zero, List.getElem?_cons_succ] at b0 b1 b2 b3 b4 b5 b6 b7 b8 b9 b10 b11 b12
  have r0 := hr.cell 0
  have r1 := hr.cell 1
  have r2 := hr.cell 2
  have r3 := hr.cell 3
  have r4 := hr.cell 4
  have r5 := hr.cell 5
  have r6 := hr.cell 6
  have r7 := hr.cell 7
  have r8 := hr.cell 8
  have r9 := hr.cell 9
  have r10 := hr.cell 10
  have r11 := hr.cell 11
  have r12 := hr.cell 12
  have fr0 := hr.free 0
  have fr1 := hr.free 1
  have fr2 := hr.free 2
  have fr3 := hr.free 3
  have fr4 := hr.free 4
  have fr5 := hr.free 5
  have fr6 := hr.free 6
  have fr7 := hr.free 7
  have fr8 := hr.free 8
  have fr9 := hr.free 9
  have fr10 := hr.free 10
  have fr11 := hr.free 11
  have fr12 := hr.free 12
  simp only [List.getElem?_cons_zero, List.getElem?_cons_succ] at r0 r1 r2 r3 r4 r5 r6 r7 r8 r9 r10 r11 r12
  have hbD := hb.drew
  have hrD := hr.drew
  have d0 := hbD.cell 0
  have d1 := hbD.cell 1
  have d2 := hbD.cell 2
  have d3 := hbD.cell 3
  have d4 := hbD.cell 4
  have d5 := hbD.cell 5
  have d6 := hbD.cell 6
  have d7 := hbD.cell 7
  have d8 := hbD.cell 8
  have d9 := hbD.cell 9
  have d10 := hbD.cell 10
  have d11 := hbD.cell 11
  have d12 := hbD.cell 12
  simp only [List.getElem?_cons_zero, List.getElem?_cons_succ] at d0 d1 d2 d3 d4 d5 d6 d7 d8 d9 d10 d11 d12
  have s0 := hrD.cell 0
  have s1 := hrD.cell 1
  have s2 := hrD.cell 2
  have s3 := hrD.cell 3
  have s4 := hrD.cell 4
  have s5 := hrD.cell 5
  have s6 := hrD.cell 6
  have s7 := hrD.cell 7
  have s8 := hrD.cell 8
  have s9 := hrD.cell 9
  have s10 := hrD.cell 10
  have s11 := hrD.cell 11
  have s12 := hrD.cell 12
  have fs0 := hrD.free 0
  have fs1 := hrD.free 1
  have fs2 := hrD.free 2
  have fs3 := hrD.free 3
  have fs4 := hrD.free 4
  have fs5 := hrD.free 5
  have fs6 := hrD.free 6
  have fs7 := hrD.free 7
  have fs8 := hrD.free 8
  have fs9 := hrD.free 9
  have fs10 := hrD.free 10
  have fs11 := hrD.free 11
  have fs12 := hrD.free 12
  simp only [List.getElem?_cons_zero, List.getElem?_cons_succ] at s0 s1 s2 s3 s4 s5 s6 s7 s8 s9 s10 s11 s12
  go_wp2_with fail
  go_region
  have hr9 : Blk ((((((((((((((w7.setCell ⟨w.heap.size + 2, 0, none⟩ (.int .i64 (kind))).setCell ⟨w.heap.size + 2, 1, none⟩ (.int .i64 (3))).setCell ⟨w.heap.size + 2, 2, none⟩ (.slice (some ad) tn tc)).setCell ⟨w.heap.size + 2, 3, none⟩ (.int .i64 ((j : Int) + 1))).setCell ⟨w.heap.size + 2, 4, none⟩ (.int .i64 (p))).setCell ⟨w.heap.size + 2, 5, none⟩ (.int .i64 (xk))).setCell ⟨w.heap.size + 2, 6, none⟩ (.int .i64 (xpc))).setCell ⟨w.heap.size + 2, 7, none⟩ (.int .i64 (xhd))).setCell ⟨w.heap.size + 2, 8, none⟩ (.slice xo xn xc)).setCell ⟨w.heap.size + 2, 9, none⟩ (.int .u32 (xi))).setCell ⟨w.heap.size + 2, 10, none⟩ (.int .u64 (xh))).setCell ⟨w.heap.size + 2, 11, none⟩ (.int .u32 (xl))).setCell ⟨w.heap.size + 2, 12, none⟩ (.int .i64 (xt)))).drew (w.heap.size + 2) 57 [.int .i64 (kind), .int .i64 (3), .slice (some ad) tn tc, .int .i64 ((j : Int) + 1), .int .i64 (p), .int .i64 (xk), .int .i64 (xpc), .int .i64 (xhd), .slice xo xn xc, .int .u32 (xi), .int .u64 (xh), .int .u32 (xl), .int .i64 (xt)] := ((((((((((((((hr.set' 0 (.int .i64 (kind)) rfl).set' 1 (.int .i64 (3)) rfl).set' 2 (.slice (some ad) tn tc) rfl).set' 3 (.int .i64 ((j : Int) + 1)) rfl).set' 4 (.int .i64 (p)) rfl).set' 5 (.int .i64 (xk)) rfl).set' 6 (.int .i64 (xpc)) rfl).set' 7 (.int .i64 (xhd)) rfl).set' 8 (.slice xo xn xc) rfl).set' 9 (.int .u32 (xi)) rfl).set' 10 (.int .u64 (xh)) rfl).set' 11 (.int .u32 (xl)) rfl).set' 12 (.int .i64 (xt)) rfl)).drew
  have hk9 : Kept w ((((((((((((((w7.setCell ⟨w.heap.size + 2, 0, none⟩ (.int .i64 (kind))).setCell ⟨w.heap.size + 2, 1, none⟩ (.int .i64 (3))).setCell ⟨w.heap.size + 2, 2, none⟩ (.slice (some ad) tn tc)).setCell ⟨w.heap.size + 2, 3, none⟩ (.int .i64 ((j : Int) + 1))).setCell ⟨w.heap.size + 2, 4, none⟩ (.int .i64 (p))).setCell ⟨w.heap.size + 2, 5, none⟩ (.int .i64 (xk))).setCell ⟨w.heap.size + 2, 6, none⟩ (.int .i64 (xpc))).setCell ⟨w.heap.size + 2, 7, none⟩ (.int .i64 (xhd))).setCell ⟨w.heap.size + 2, 8, none⟩ (.slice xo xn xc)).setCell ⟨w.heap.size + 2, 9, none⟩ (.int .u32 (xi))).setCell ⟨w.heap.size + 2, 10, none⟩ (.int .u64 (xh))).setCell ⟨w.heap.size + 2, 11, none⟩ (.int .u32 (xl))).setCell ⟨w.heap.size + 2, 12, none⟩ (.int .i64 (xt)))).drew := Below.drew (Below.setCell (Below.setCell (Below.setCell (Below.setCell (Below.setCell (Below.setCell (Below.setCell (Below.setCell (Below.setCell (Below.setCell (Below.setCell (Below.setCell (Below.setCell hk (p := ⟨w.heap.size + 2, 0, none⟩) (by simp) _) (p := ⟨w.heap.size + 2, 1, none⟩) (by simp) _) (p := ⟨w.heap.size + 2, 2, none⟩) (by simp) _) (p := ⟨w.heap.size + 2, 3, none⟩) (by simp) _) (p := ⟨w.heap.size + 2, 4, none⟩) (by simp) _) (p := ⟨w.heap.size + 2, 5, none⟩) (by simp) _) (p := ⟨w.heap.size + 2, 6, none⟩) (by simp) _) (p := ⟨w.heap.size + 2, 7, none⟩) (by simp) _) (p := ⟨w.heap.size + 2, 8, none⟩) (by simp) _) (p := ⟨w.heap.size + 2, 9, none⟩) (by simp) _) (p := ⟨w.heap.size + 2, 10, none⟩) (by simp) _) (p := ⟨w.heap.size + 2, 11, none⟩) (by simp) _) (p := ⟨w.heap.size + 2, 12, none⟩) (by simp) _)
  have hc9 : Chg (fun q => q = w.heap.size + 1 ∨ q = w.heap.size + 2) w6 ((((((((((((((w7.setCell ⟨w.heap.size + 2, 0, none⟩ (.int .i64 (kind))).setCell ⟨w.heap.size + 2, 1, none⟩ (.int .i64 (3))).setCell ⟨w.heap.size + 2, 2, none⟩ (.slice (some ad) tn tc)).setCell ⟨w.heap.size + 2, 3, none⟩ (.int .i64 ((j : Int) + 1))).setCell ⟨w.heap.size + 2, 4, none⟩ (.int .i64 (p))).setCell ⟨w.heap.size + 2, 5, none⟩ (.int .i64 (xk))).setCell ⟨w.heap.size + 2, 6, none⟩ (.int .i64 (xpc))).setCell ⟨w.heap.size + 2, 7, none⟩ (.int .i64 (xhd))).setCell ⟨w.heap.size + 2, 8, none⟩ (.slice xo xn xc)).setCell ⟨w.heap.size + 2, 9, none⟩ (.int .u32 (xi))).setCell ⟨w.heap.size + 2, 10, none⟩ (.int .u64 (xh))).setCell ⟨w.heap.size + 2, 11, none⟩ (.int .u32 (xl))).setCell ⟨w.heap.size + 2, 12, none⟩ (.int .i64 (xt)))).drew := (((((((((((((hcL.setCell ⟨w.heap.size + 2, 0, none⟩ (.int .i64 (kind)) (fun _ => .inr rfl)).setCell ⟨w.heap.size + 2, 1, none⟩ (.int .i64 (3)) (fun _ => .inr rfl)).setCell ⟨w.heap.size + 2, 2, none⟩ (.slice (some ad) tn tc) (fun _ => .inr rfl)).setCell ⟨w.heap.size + 2, 3, none⟩ (.int .i64 ((j : Int) + 1)) (fun _ => .inr rfl)).setCell ⟨w.heap.size + 2, 4, none⟩ (.int .i64 (p)) (fun _ => .inr rfl)).setCell ⟨w.heap.size + 2, 5, none⟩ (.int .i64 (xk)) (fun _ => .inr rfl)).setCell ⟨w.heap.size + 2, 6, none⟩ (.int .i64 (xpc)) (fun _ => .inr rfl)).setCell ⟨w.heap.size + 2, 7, none⟩ (.int .i64 (xhd)) (fun _ => .inr rfl)).setCell ⟨w.heap.size + 2, 8, none⟩ (.slice xo xn xc) (fun _ => .inr rfl)).setCell ⟨w.heap.size + 2, 9, none⟩ (.int .u32 (xi)) (fun _ => .inr rfl)).setCell ⟨w.heap.size + 2, 10, none⟩ (.int .u64 (xh)) (fun _ => .inr rfl)).setCell ⟨w.heap.size + 2, 11, none⟩ (.int .u32 (xl)) (fun _ => .inr rfl)).setCell ⟨w.heap.size + 2, 12, none⟩ (.int .i64 (xt)) (fun _ => .inr rfl)).drew
  generalize ((((((((((((((w7.setCell ⟨w.heap.size + 2, 0, none⟩ (.int .i64 (kind))).setCell ⟨w.heap.size + 2, 1, none⟩ (.int .i64 (3))).setCell ⟨w.heap.size + 2, 2, none⟩ (.slice (some ad) tn tc)).setCell ⟨w.heap.size + 2, 3, none⟩ (.int .i64 ((j : Int) + 1))).setCell ⟨w.heap.size + 2, 4, none⟩ (.int .i64 (p))).setCell ⟨w.heap.size + 2, 5, none⟩ (.int .i64 (xk))).setCell ⟨w.heap.size + 2, 6, none⟩ (.int .i64 (xpc))).setCell ⟨w.heap.size + 2, 7, none⟩ (.int .i64 (xhd))).setCell ⟨w.heap.size + 2, 8, none⟩ (.slice xo xn xc)).setCell ⟨w.heap.size + 2, 9, none⟩ (.int .u32 (xi))).setCell ⟨w.heap.size + 2, 10, none⟩ (.int .u64 (xh))).setCell ⟨w.heap.size + 2, 11, none⟩ (.int .u32 (xl))).setCell ⟨w.heap.size + 2, 12, none⟩ (.int .i64 (xt)))).drew = w9 at *
  clear b0 b1 b2 b3 b4 b5 b6 b7 b8 b9 b10 b11 b12  r0 r1 r2 r3 r4 r5 r6 r7 r8 r9 r10 r11 r12 fr0 fr1 fr2 fr3 fr4 fr5 fr6 fr7 fr8 fr9 fr10 fr11 fr12 d0 d1 d2 d3 d4 d5 d6 d7 d8 d9 d10 d11 d12  s0 s1 s2 s3 s4 s5 s6 s7 s8 s9 s10 s11 s12 fs0 fs1 fs2 fs3 fs4 fs5 fs6 fs7 fs8 fs9 fs10 fs11 fs12
  have k0 := hr9.cell 0
  have k1 := hr9.cell 1
  have k2 := hr9.cell 2
  have k3 := hr9.cell 3
  have k4 := hr9.cell 4
  have k5 := hr9.cell 5
  have k6 := hr9.cell 6
  have k7 := hr9.cell 7
  have k8 := hr9.cell 8
  have k9 := hr9.cell 9
  have k10 := hr9.cell 10
  have k11 := hr9.cell 11
  have k12 := hr9.cell 12
  simp only [List.getElem?_cons_zero, List.getElem?_cons_succ] at k0 k1 k2 k3 k4 k5 k6 k7 k8 k9 k10 k11 k12
  go_wp2_with fail
  exact bodyPost_ret (v := .tuple #[l', .agg ([.int .i64 (kind), .int .i64 (3), .slice (some ad) tn tc, .int .i64 ((j : Int) + 1), .int .i64 (p), .int .i64 (xk), .int .i64 (xpc), .int .i64 (xhd), .slice xo xn xc, .int .u32 (xi), .int .u64 (xh), .int .u32 (xl), .int .i64 (xt)] : List Value).toArray]) (by simp [results, Tryz.results48, go_sem, k0, k1, k2, k3, k4, k5, k6, k7, k8, k9, k10, k11, k12]) rfl ⟨_, _, _, rfl, (HM.out w (Below.refl _ _)).past hl' (by simp [mput_len]) (fun q e => by omega) hown hc9, ⟨⟨hp0, hp1⟩, ⟨by have := HJT.out; show j + 1 ≤ tasks.length; omega, hj1⟩, kind, xk, xpc, xhd, xi, xh, xl, xt, rfl, HT.out _ hk9, ⟨xo, xn, xc, rfl⟩, fun e => by rcases e with e | e <;> cases e⟩, hk9, fun g e => (hown g e).imp id (fun e => by omega), (by first | (intro e; rcases e with e | e <;> cases e; done) | (intro _ g _; exact .inl ⟨by simp, rfl⟩))⟩

set_option maxRecDepth 8000 in
set_option maxHeartbeats 3200000 in
theorem st11_fill0 {c : Cfg} {mem : List Int} {s : PM} {a l v tv xvl : Value} (w : World) (hg : Good c) (ha : MapV w c a) (h : R11 w v (linksL c) tv xvl s) (hm : MemV w l mem) (hall : ∀ x ∈ mem, U x) (hlen : mem.length ≤ 20000) (hp : s.pc = .fill) (hjl : s.j < s.tasks.length) (hjn : ¬ s.j + 1 = s.tasks.length) :
    Calls Tryz.prog 48 #[a, l, v] w fun e w' => ∃ l' v' xvl', e = .returned (.tuple #[l', v']) ∧ MemV w' l' (pmStep c mem s).1 ∧ R11 w' v' (linksL c) tv xvl' (pmStep c mem s).2 ∧ Kept w w' ∧ (∀ g, l'.ownBlock = some g → l' = l ∨ w.heap.size ≤ g) ∧ XKeep w.heap.size s (pmStep c mem s).2 xvl xvl' := by
  obtain ⟨pc, tasks, j, p, x⟩ := s
  simp only at hp
  subst hp
  obtain ⟨⟨hp0, hp1⟩, ⟨hj0, hj1⟩, kind, xk, xpc, xhd, xi, xh, xl, xt, rfl, htv, ⟨xo, xn, xc, rfl⟩, hx⟩ := h
  simp only [pcN11] at hp0 hp1 hj0 hj1 htv hx ⊢
  obtain ⟨to, tc, rfl⟩ := htv.form
  obtain ⟨tn, htn⟩ : ∃ tn, tn = (tasks.map (Value.int .u64)).length := ⟨_, rfl⟩
  rw [← htn] at htv ⊢
  have HTN : Hid (tn = tasks.length) := by rw [htn]; simp [Hid]
  clear htn
  obtain ⟨va, rfl, hT⟩ := ha
  obtain ⟨ao, acap, rfl, _⟩ := hT.ex
  have HV : Hid (∀ W, Kept w W → MapV W c (.agg #[.slice ao (allT c).length acap, .int .i64 (manyI c)])) := fun W k => ⟨_, rfl, hT.kept k⟩
  clear hT
  generalize (allT c).length = ln at *
  obtain ⟨mo, mc, hmv⟩ := hm.form
  obtain ⟨ml, hml⟩ : ∃ ml, ml = (mem.map (Value.int .u64)).length := ⟨_, rfl⟩
  rw [← hml] at hmv
  subst hmv
  clear hml
  have HM : Hid (∀ W, Kept w W → MemV W (.slice mo ml mc) mem) := fun W k => hm.kept k
  have HT : Hid (∀ W, Kept w W → Reads W (.slice to tn tc) (tasks.map (Value.int .u64))) := fun W k => htv.kept k
  have HA : Hid (∀ x ∈ mem, U x) := hall
  clear hm htv hall
  simp only at hjl hjn
  unfold pmStep pmFill
  simp only []
  clear hx
  rw [if_neg hjn]
  have HJN : Hid (¬ j + 1 = tasks.length) := hjn
  have hq : ((j : Int) + 1 == (tn : Int)) = false := by have := HTN.out; simp; omega
  have hq2 : ¬ (j : Int) + 1 = tn := by have := HTN.out; omega
  clear hjn
  obtain ⟨ad, rfl, hc⟩ := (HT.out w (Below.refl _ _)).task hjl
  obtain ⟨x0, hx0⟩ : ∃ x0, tasks[j]?.getD 0 = x0 := ⟨_, rfl⟩
  rw [hx0] at hc ⊢
  have HP : Hid (placeT c ⟨13, p, j⟩ = pTask c p j) := place_task hg p j
  have hjt : (j : Int) < tn := by have := HTN.out; omega
  have hj00 : (0 : Int) ≤ j := by omega
  have HJT : Hid (j < tasks.length) := hjl
  have hadl : (ad.add j).block < w.heap.size := World.block_lt_of_cell? w _ hc
  clear hx0 hjl
  have hA0 := Blk.new w 35 [.slice ao ln acap, .int .i64 (manyI c)]
  have hk0 : Kept w (w.alloc (.cells ([.slice ao ln acap, .int .i64 (manyI c)] : List Value).toArray 35)) := (Below.refl _ _).alloc (Nat.le_refl _) _
  have z0 : (w.alloc (.cells ([.slice ao ln acap, .int .i64 (manyI c)] : List Value).toArray 35)).heap.size = w.heap.size + 1 := by simp
  go_enter Tryz.func48, Tryz.ntmps48
  go_wp2_with fail
  generalize w.alloc (.cells ([.slice ao ln acap, .int .i64 (manyI c)] : List Value).toArray 35) = w1 at *
  have hb0 := Blk.new w1 57 [.int .i64 (kind), .int .i64 (2), .slice (some ad) tn tc, .int .i64 (j), .int .i64 (p), .int .i64 (xk), .int .i64 (xpc), .int .i64 (xhd), .slice xo xn xc, .int .u32 (xi), .int .u64 (xh), .int .u32 (xl), .int .i64 (xt)]
  rw [z0] at hb0
  have hk1 : Kept w1 (w1.alloc (.cells ([.int .i64 (kind), .int .i64 (2), .slice (some ad) tn tc, .int .i64 (j), .int .i64 (p), .int .i64 (xk), .int .i64 (xpc), .int .i64 (xhd), .slice xo xn xc, .int .u32 (xi), .int .u64 (xh), .int .u32 (xl), .int .i64 (xt)] : List Value).toArray 57)) := (Below.refl _ _).alloc (Nat.le_refl _) _
  have z1 : (w1.alloc (.cells ([.int .i64 (kind), .int .i64 (2), .slice (some ad) tn tc, .int .i64 (j), .int .i64 (p), .int .i64 (xk), .int .i64 (xpc), .int .i64 (xhd), .slice xo xn xc, .int .u32 (xi), .int .u64 (xh), .int .u32 (xl), .int .i64 (xt)] : List Value).toArray 57)).heap.size = w.heap.size + 2 := by simp [z0]
  generalize w1.alloc (.cells ([.int .i64 (kind), .int .i64 (2), .slice (some ad) tn tc, .int .i64 (j), .int .i64 (p), .int .i64 (xk), .int .i64 (xpc), .int .i64 (xhd), .slice xo xn xc, .int .u32 (xi), .int .u64 (xh), .int .u32 (xl), .int .i64 (xt)] : List Value).toArray 57) = w2 at *
  have hr0 := Blk.new w2 57 [.int .i64 0, .int .i64 0, .slice none 0 0, .int .i64 0, .int .i64 0, .int .i64 0, .int .i64 0, .int .i64 0, .slice none 0 0, .int .u32 0, .int .u64 0, .int .u32 0, .int .i64 0]
  rw [z1] at hr0
  have hk2 : Kept w2 (w2.alloc (.cells ([.int .i64 0, .int .i64 0, .slice none 0 0, .int .i64 0, .int .i64 0, .int .i64 0, .int .i64 0, .int .i64 0, .slice none 0 0, .int .u32 0, .int .u64 0, .int .u32 0, .int .i64 0] : List Value).toArray 57)) := (Below.refl _ _).alloc (Nat.le_refl _) _
  have z2 : (w2.alloc (.cells ([.int .i64 0, .int .i64 0, .slice none 0 0, .int .i64 0, .int .i64 0, .int .i64 0, .int .i64 0, .int .i64 0, .slice none 0 0, .int .u32 0, .int .u64 0, .int .u32 0, .int .i64 0] : List Value).toArray 57)).heap.size = w.heap.size + 3 := by simp [z1]
  generalize w2.alloc (.cells ([.int .i64 0, .int .i64 0, .slice none 0 0, .int .i64 0, .int .i64 0, .int .i64 0, .int .i64 0, .int .i64 0, .slice none 0 0, .int .u32 0, .int .u64 0, .int .u32 0, .int .i64 0] : List Value).toArray 57) = w3 at *
  have hA := hk2.blk (hk1.blk hA0)
  have hb := hk2.blk hb0
  have hr := hr0
  have hk : Kept w w3 := (hk0.trans' hk1).trans' hk2
  clear hA0 hb0 hr0 hk0 hk1 hk2 z0 z1
  have hbD := hb.drew
  have hAD := hA.drew
  have hrD := hr.drew
  have hkD : Kept w w3.drew := hk.drew
  have d0 := hbD.cell 0
  have d1 := hbD.cell 1
  have d2 := hbD.cell 2
  have d3 := hbD.cell 3
  have d4 := hbD.cell 4
  have d5 := hbD.cell 5
  have d6 := hbD.cell 6
  have d7 := hbD.cell 7
  have d8 := hbD.cell 8
  have d9 := hbD.cell 9
  have d10 := hbD.cell 10
  have d11 := hbD.cell 11
  have d12 := hbD.cell 12
  simp only [List.getElem?_cons_zero, List.getElem?_cons_succ] at d0 d1 d2 d3 d4 d5 d6 d7 d8 d9 d10 d11 d12
  have a0 := hAD.cell 0
  have a1 := hAD.cell 1
  simp only [List.getElem?_cons_zero, List.getElem?_cons_succ] at a0 a1
  have dc : w3.drew.cell? (ad.add j) = some (.int .u64 x0) := by rw [Below.cell hkD hadl]; exact hc
  go_wp2_with fail
  refine wp_region_z 14 (fun w' => w'.cell? ⟨w.heap.size, 0, none⟩ = some (.slice ao ln acap) ∧ w'.cell? ⟨w.heap.size, 1, none⟩ = some (.int .i64 (manyI c)) ∧ w'.cell? ⟨w.heap.size + 1, 2, none⟩ = some (.slice (some ad) tn tc) ∧ w'.cell? ⟨w.heap.size + 1, 3, none⟩ = some (.int .i64 j) ∧ w'.cell? ⟨w.heap.size + 1, 4, none⟩ = some (.int .i64 p) ∧ w'.cell? (ad.add j) = some (.int .u64 x0)) (by kernel_rfl) ?_
  refine wpAnyZ_take (i := 0) (v := ?v0z8) rfl (by kernel_rfl) (by kernel_rfl) (by kernel_rfl) (by kernel_rfl) (fun _ _ _ h => h) (Or.inl ⟨by rfl, ?hy0z8⟩) ⟨a0,a1,d2,d3,d4,dc⟩ ?_
  case hy0z8 => intro w hSw; (try dsimp only at hSw); first | (go_simp; done) | (go_simp; with_reducible rfl)
  try simp only [Act.put, List.setIfInBounds_toArray]
  refine wpAnyZ_take (i := 1) (v := ?v1z8) rfl (by kernel_rfl) (by kernel_rfl) (by kernel_rfl) (by kernel_rfl) (fun _ _ _ h => h) (Or.inl ⟨by rfl, ?hy1z8⟩) ⟨a0,a1,d2,d3,d4,dc⟩ ?_
  case hy1z8 => intro w hSw; (try dsimp only at hSw); first | (go_simp; done) | (go_simp; with_reducible rfl)
  try simp only [Act.put]
  refine wpAnyZ_take (i := 2) (v := ?v2z8) rfl (by kernel_rfl) (by kernel_rfl) (by kernel_rfl) (by kernel_rfl) (fun _ _ _ h => h) (Or.inl ⟨by rfl, ?hy2z8⟩) ⟨a0,a1,d2,d3,d4,dc⟩ ?_
  case hy2z8 => intro w hSw; (try dsimp only at hSw); first | (go_simp; done) | (go_simp; with_reducible rfl)
  try simp only [Act.put]
  refine wpAnyZ_take (i := 3) (v := ?v3z8) rfl (by kernel_rfl) (by kernel_rfl) (by kernel_rfl) (by kernel_rfl) (fun _ _ _ h => h) (Or.inl ⟨by rfl, ?hy3z8⟩) ⟨a0,a1,d2,d3,d4,dc⟩ ?_
  case hy3z8 => intro w hSw; (try dsimp only at hSw); first | (go_simp; done) | (go_simp; with_reducible rfl)
  try simp only [Act.put]
  refine wpAnyZ_take (i := 4) (v := ?v4z8) rfl (by kernel_rfl) (by kernel_rfl) (by kernel_rfl) (by kernel_rfl) (fun _ _ _ h => h) (Or.inl ⟨by rfl, ?hy4z8⟩) ⟨a0,a1,d2,d3,d4,dc⟩ ?_
  case hy4z8 => intro w hSw; (try dsimp only at hSw); first | (go_simp; done) | (go_simp; with_reducible rfl)
  try simp only [Act.put]
  refine wpAnyZ_take (i := 5) (v := ?v5z8) rfl (by kernel_rfl) (by kernel_rfl) (by kernel_rfl) (by kernel_rfl) (fun _ _ _ h => h) (Or.inl ⟨by rfl, ?hy5z8⟩) ⟨a0,a1,d2,d3,d4,dc⟩ ?_
  case hy5z8 => intro w hSw; (try dsimp only at hSw); first | (go_simp; done) | (go_simp; with_reducible rfl)
  try simp only [Act.put]
  refine wpAnyZ_take (i := 7) (v := ?v7z8) rfl (by kernel_rfl) (by kernel_rfl) (by kernel_rfl) (by kernel_rfl) (fun _ _ _ h => h) (Or.inl ⟨by rfl, ?hy7z8⟩) ⟨a0,a1,d2,d3,d4,dc⟩ ?_
  case hy7z8 => intro w hSw; (try dsimp only at hSw); first | (go_simp; done) | (go_simp; with_reducible rfl)
  try simp only [Act.put]
  refine wpAnyZ_take (i := 8) (v := ?v8z8) rfl (by kernel_rfl) (by kernel_rfl) (by kernel_rfl) (by kernel_rfl) (fun _ _ _ h => h) (Or.inl ⟨by rfl, ?hy8z8⟩) ⟨a0,a1,d2,d3,d4,dc⟩ ?_
  case hy8z8 => intro w hSw; (try dsimp only at hSw); first | (go_simp; done) | (go_simp; with_reducible rfl)
  try simp only [Act.put]
  refine wpAnyZ_take (i := 9) (v := ?v9z8) rfl (by kernel_rfl) (by kernel_rfl) (by kernel_rfl) (by kernel_rfl) (fun _ _ _ h => h) (Or.inl ⟨by rfl, ?hy9z8⟩) ⟨a0,a1,d2,d3,d4,dc⟩ ?_
  case hy9z8 => intro w hSw; (try dsimp only at hSw); first | (go_simp; done) | (go_simp; with_reducible rfl)
  try simp only [Act.put]
  refine wpAnyZ_take (i := 10) (v := ?v10z8) rfl (by kernel_rfl) (by kernel_rfl) (by kernel_rfl) (by kernel_rfl) (fun _ _ _ h => h) (Or.inl ⟨by rfl, ?hy10z8⟩) ⟨a0,a1,d2,d3,d4,dc⟩ ?_
  case hy10z8 => intro w hSw; (try dsimp only at hSw); first | (go_simp; done) | (go_simp; with_reducible rfl)
  try simp only [Act.put]
  refine wpAnyZ_take (i := 11) (v := ?v11z8) rfl (by kernel_rfl) (by kernel_rfl) (by kernel_rfl) (by kernel_rfl) (fun _ _ _ h => h) (Or.inl ⟨by rfl, ?hy11z8⟩) ⟨a0,a1,d2,d3,d4,dc⟩ ?_
  case hy11z8 => intro w hSw; (try dsimp only at hSw); first | (go_simp; done) | (go_simp; with_reducible rfl)
  try simp only [Act.put]
  refine wpAnyZ_take (i := 12) (v := ?v12z8) rfl (by kernel_rfl) (by kernel_rfl) (by kernel_rfl) (by kernel_rfl) (fun _ _ _ h => h) (Or.inl ⟨by rfl, ?hy12z8⟩) ⟨a0,a1,d2,d3,d4,dc⟩ ?_
  case hy12z8 => intro w hSw; (try dsimp only at hSw); first | (go_simp; done) | (go_simp; with_reducible rfl)
  try simp only [Act.put]
  refine wpAnyZ_one (i := 6) (by kernel_rfl) rfl (fun K hK => ?_)
  go_simp
  go_at_call 54
  refine (at_ref 13 p j _ (HV.out _ hkD)).mono ?_; rintro e w5 ⟨rfl, hkc⟩
  rw [HP.out]
  have hb5 := hkc.blk hbD
  have hA5 := hkc.blk hAD
  have hr5 := hkc.blk hrD
  have hk5 := Kept.trans' hkD hkc
  have e0 := hb5.cell 0
  have e1 := hb5.cell 1
  have e2 := hb5.cell 2
  have e3 := hb5.cell 3
  have e4 := hb5.cell 4
  have e5 := hb5.cell 5
  have e6 := hb5.cell 6
  have e7 := hb5.cell 7
  have e8 := hb5.cell 8
  have e9 := hb5.cell 9
  have e10 := hb5.cell 10
  have e11 := hb5.cell 11
  have e12 := hb5.cell 12
  simp only [List.getElem?_cons_zero, List.getElem?_cons_succ] at e0 e1 e2 e3 e4 e5 e6 e7 e8 e9 e10 e11 e12
  have g0 := hA5.cell 0
  have g1 := hA5.cell 1
  simp only [List.getElem?_cons_zero, List.getElem?_cons_succ] at g0 g1
  have ec : w5.cell? (ad.add j) = some (.int .u64 x0) := by rw [Below.cell hk5 hadl]; exact hc
  refine hK.out _ _ (fun _ => ⟨g0,g1,e2,e3,e4,ec⟩) ?_
  clear hK K
  try simp only [Act.put, List.setIfInBounds_toArray, List.set_cons_zero, List.set_cons_succ]
  refine wpAnyZ_one (i := 13) (by kernel_rfl) rfl (fun K hK => ?_)
  go_simp
  go_at_call 22
  refine (putL_ref (pTask c p j) x0 _ (HM.out _ hk5) hlen).mono ?_; rintro e w6 ⟨l', rfl, hl', hkc6, hown⟩
  have hb6 := hkc6.blk hb5
  have hA6 := hkc6.blk hA5
  have hr6 := hkc6.blk hr5
  have hk6 := Kept.trans' hk5 hkc6
  have z5 : w.heap.size + 2 < w5.heap.size := hr5.lt
  have m0 := hb6.cell 0
  have m1 := hb6.cell 1
  have m2 := hb6.cell 2
  have m3 := hb6.cell 3
  have m4 := hb6.cell 4
  have m5 := hb6.cell 5
  have m6 := hb6.cell 6
  have m7 := hb6.cell 7
  have m8 := hb6.cell 8
  have m9 := hb6.cell 9
  have m10 := hb6.cell 10
  have m11 := hb6.cell 11
  have m12 := hb6.cell 12
  simp only [List.getElem?_cons_zero, List.getElem?_cons_succ] at m0 m1 m2 m3 m4 m5 m6 m7 m8 m9 m10 m11 m12
  have n0 := hA6.cell 0
  have n1 := hA6.cell 1
  simp only [List.getElem?_cons_zero, List.getElem?_cons_succ] at n0 n1
  have nc : w6.cell? (ad.add j) = some (.int .u64 x0) := by rw [Below.cell hk6 hadl]; exact hc
  refine hK.out _ _ (fun _ => ⟨n0,n1,m2,m3,m4,nc⟩) ?_
  clear hK K
  try simp only [Act.put, List.setIfInBounds_toArray, List.set_cons_zero, List.set_cons_succ]
  refine wpAnyZ_one (i := 14) (by kernel_rfl) rfl (fun K hK => ?_)
  go_simp
  refine hK.out _ _ (fun h => absurd rfl h) ?_
  refine wpAnyZ_done (by kernel_rfl) ?_ _
  clear hK K
  clear d0 d1 d2 d3 d4 d5 d6 d7 d8 d9 d10 d11 d12 a0 a1 e0 e1 e2 e3 e4 e5 e6 e7 e8 e9 e10 e11 e12 g0 g1 m0 m1 m2 m3 m4 m5 m6 m7 m8 m9 m10 m11 m12 n0 n1  dc ec nc hb hA hr hk hbD hAD hrD hb5 hA5 hr5 hkc hkc6 hkD
  have hb := hb6
  have hA := hA6
  have hr := hr6
  have hk := hk6
  clear hb6 hA6 hr6 hk6
  have hcL : Chg (fun q => q = w.heap.size + 1 ∨ q = w.heap.size + 2) w6 w6 := Chg.refl _ _
  have yj : IntKind.i64.wrap ((j : Int) + 1) = j + 1 := IntWalk.i64_in _ (by omega)
  have b0 := hb.cell 0
  have b1 := hb.cell 1
  have b2 := hb.cell 2
  have b3 := hb.cell 3
  have b4 := hb.cell 4
  have b5 := hb.cell 5
  have b6 := hb.cell 6
  have b7 := hb.cell 7
  have b8 := hb.cell 8
  have b9 := hb.cell 9
  have b10 := hb.cell 10
  have b11 := hb.cell 11
  have b12 := hb.cell 12
  have fb1 := hb.free 1
  have fb3 := hb.free 3
  simp only [List.getElem?_cons_zero, List.getElem?_cons_succ] at b0 b1 b2 b3 b4 b5 b6 b7 b8 b9 b10 b11 b12
  go_wp2_with fail
  clear b0 b1 b2 b3 b4 b5 b6 b7 b8 b9 b10 b11 b12 fb1 fb3
  have hb7 : Blk (w6.setCell ⟨w.heap.size + 1, 3, none⟩ (.int .i64 ((j : Int) + 1))) (w.heap.size + 1) 57 [.int .i64 (kind), .int .i64 (2), .slice (some ad) tn tc, .int .i64 ((j : Int) + 1), .int .i64 (p), .int .i64 (xk), .int .i64 (xpc), .int .i64 (xhd), .slice xo xn xc, .int .u32 (xi), .int .u64 (xh), .int .u32 (xl), .int .i64 (xt)] := (hb.set' 3 (.int .i64 ((j : Int) + 1)) rfl)
  have hcx := ((Chg.refl (fun q => q = w.heap.size + 1) w6).setCell ⟨w.heap.size + 1, 3, none⟩ (.int .i64 ((j : Int) + 1)) (fun _ => rfl))
  replace hr := hcx.blk hr (by simp)
  replace hA := hcx.blk hA (by simp)
  replace hcL := hcL.trans (hcx.mono (fun q _ e => .inl e))
  replace hk := Below.trans hk (hcx.toBelow (B := w.heap.size) (by have := hk.size; omega) (fun q hq e => by omega))
  generalize (w6.setCell ⟨w.heap.size + 1, 3, none⟩ (.int .i64 ((j : Int) + 1))) = w7 at *
  clear hcx hb
  have hb := hb7
  clear hb7
  have b0 := hb.cell 0
  have b1 := hb.cell 1
  have b2 := hb.cell 2
  have b3 := hb.cell 3
  have b4 := hb.cell 4
  have b5 := hb.cell 5
  have b6 := hb.cell 6
  have b7 := hb.cell 7
  have b8 := hb.cell 8
  have b9 := hb.cell 9
  have b10 := hb.cell 10
  have b11 := hb.cell 11
  have b12 := hb.cell 12
  simp only [List.getElem?_cons_zero, List.getElem?_cons_succ] at b0 b1 b2 b3 b4 b5 b6 b7 b8 b9 b10 b11 b12
  have r0 := hr.cell 0
  have r1 := hr.cell 1
  have r2 := hr.cell 2
  have r3 := hr.cell 3
  have r4 := hr.cell 4
  have r5 := hr.cell 5
  have r6 := hr.cell 6
  have r7 := hr.cell 7
  have r8 := hr.cell 8
  have r9 := hr.cell 9
  have r10 := hr.cell 10
  have r11 := hr.cell 11
  have r12 := hr.cell 12
  have fr0 := hr.free 0
  have fr1 := hr.free 1
  have fr2 := hr.free 2
  have fr3 := hr.free 3
  have fr4 := hr.free 4
  have fr5 := hr.free 5
  have fr6 := hr.free 6
  have fr7 := hr.free 7
  have fr8 := hr.free 8
  have fr9 := hr.free 9
  have fr10 := hr.free 10
  have fr11 := hr.free 11
  have fr12 := hr.free 12
  simp only [List.getElem?_cons_zero, List.getElem?_cons_succ] at r0 r1 r2 r3 r4 r5 r6 r7 r8 r9 r10 r11 r12
  have hbD := hb.drew
  have hrD := hr.drew
  have d0 := hbD.cell 0
  have d1 := hbD.cell 1
  have d2 := hbD.cell 2
  have d3 := hbD.cell 3
  have d4 := hbD.cell 4
  have d5 := hbD.cell 5
  have d6 := hbD.cell 6
  have d7 := hbD.cell 7
  have d8 := hbD.cell 8
  have d9 := hbD.cell 9
  have d10 := hbD.cell 10
  have d11 := hbD.cell 11
  have d12 := hbD.cell 12
  simp only [List.getElem?_cons_zero, List.getElem?_cons_succ] at d0 d1 d2 d3 d4 d5 d6 d7 d8 d9 d10 d11 d12
  have s0 := hrD.cell 0
  have s1 := hrD.cell 1
  have s2 := hrD.cell 2
  have s3 := hrD.cell 3
  have s4 := hrD.cell 4
  have s5 := hrD.cell 5
  have s6 := hrD.cell 6
  have s7 := hrD.cell 7
  have s8 := hrD.cell 8
  have s9 := hrD.cell 9
  have s10 := hrD.cell 10
  have s11 := hrD.cell 11
  have s12 := hrD.cell 12
  have fs0 := hrD.free 0
  have fs1 := hrD.free 1
  have fs2 := hrD.free 2
  have fs3 := hrD.free 3
  have fs4 := hrD.free 4
  have fs5 := hrD.free 5
  have fs6 := hrD.free 6
  have fs7 := hrD.free 7
  have fs8 := hrD.free 8
  have fs9 := hrD.free 9
  have fs10 := hrD.free 10
  have fs11 := hrD.free 11
  have fs12 := hrD.free 12
  simp only [List.getElem?_cons_zero, List.getElem?_cons_succ] at s0 s1 s2 s3 s4 s5 s6 s7 s8 s9 s10 s11 s12
  go_wp2_with fail
  go_region
  have hr9 : Blk ((((((((((((((w7.setCell ⟨w.heap.size + 2, 0, none⟩ (.int .i64 (kind))).setCell ⟨w.heap.size + 2, 1, none⟩ (.int .i64 (2))).setCell ⟨w.heap.size + 2, 2, none⟩ (.slice (some ad) tn tc)).setCell ⟨w.heap.size + 2, 3, none⟩ (.int .i64 ((j : Int) + 1))).setCell ⟨w.heap.size + 2, 4, none⟩ (.int .i64 (p))).setCell ⟨w.heap.size + 2, 5, none⟩ (.int .i64 (xk))).setCell ⟨w.heap.size + 2, 6, none⟩ (.int .i64 (xpc))).setCell ⟨w.heap.size + 2, 7, none⟩ (.int .i64 (xhd))).setCell ⟨w.heap.size + 2, 8, none⟩ (.slice xo xn xc)).setCell ⟨w.heap.size + 2, 9, none⟩ (.int .u32 (xi))).setCell ⟨w.heap.size + 2, 10, none⟩ (.int .u64 (xh))).setCell ⟨w.heap.size + 2, 11, none⟩ (.int .u32 (xl))).setCell ⟨w.heap.size + 2, 12, none⟩ (.int .i64 (xt)))).drew (w.heap.size + 2) 57 [.int .i64 (kind), .int .i64 (2), .slice (some ad) tn tc, .int .i64 ((j : Int) + 1), .int .i64 (p), .int .i64 (xk), .int .i64 (xpc), .int .i64 (xhd), .slice xo xn xc, .int .u32 (xi), .int .u64 (xh), .int .u32 (xl), .int .i64 (xt)] := ((((((((((((((hr.set' 0 (.int .i64 (kind)) rfl).set' 1 (.int .i64 (2)) rfl).set' 2 (.slice (some ad) tn tc) rfl).set' 3 (.int .i64 ((j : Int) + 1)) rfl).set' 4 (.int .i64 (p)) rfl).set' 5 (.int .i64 (xk)) rfl).set' 6 (.int .i64 (xpc)) rfl).set' 7 (.int .i64 (xhd)) rfl).set' 8 (.slice xo xn xc) rfl).set' 9 (.int .u32 (xi)) rfl).set' 10 (.int .u64 (xh)) rfl).set' 11 (.int .u32 (xl)) rfl).set' 12 (.int .i64 (xt)) rfl)).drew
  have hk9 : Kept w ((((((((((((((w7.setCell ⟨w.heap.size + 2, 0, none⟩ (.int .i64 (kind))).setCell ⟨w.heap.size + 2, 1, none⟩ (.int .i64 (2))).setCell ⟨w.heap.size + 2, 2, none⟩ (.slice (some ad) tn tc)).setCell ⟨w.heap.size + 2, 3, none⟩ (.int .i64 ((j : Int) + 1))).setCell ⟨w.heap.size + 2, 4, none⟩ (.int .i64 (p))).setCell ⟨w.heap.size + 2, 5, none⟩ (.int .i64 (xk))).setCell ⟨w.heap.size + 2, 6, none⟩ (.int .i64 (xpc))).setCell ⟨w.heap.size + 2, 7, none⟩ (.int .i64 (xhd))).setCell ⟨w.heap.size + 2, 8, none⟩ (.slice xo xn xc)).setCell ⟨w.heap.size + 2, 9, none⟩ (.int .u32 (xi))).setCell ⟨w.heap.size + 2, 10, none⟩ (.int .u64 (xh))).setCell ⟨w.heap.size + 2, 11, none⟩ (.int .u32 (xl))).setCell ⟨w.heap.size + 2, 12, none⟩ (.int .i64 (xt)))).drew := Below.drew (Below.setCell (Below.setCell (Below.setCell (Below.setCell (Below.setCell (Below.setCell (Below.setCell (Below.setCell (Below.setCell (Below.setCell (Below.setCell (Below.setCell (Below.setCell hk (p := ⟨w.heap.size + 2, 0, none⟩) (by simp) _) (p := ⟨w.heap.size + 2, 1, none⟩) (by simp) _) (p := ⟨w.heap.size + 2, 2, none⟩) (by simp) _) (p := ⟨w.heap.size + 2, 3, none⟩) (by simp) _) (p := ⟨w.heap.size + 2, 4, none⟩) (by simp) _) (p := ⟨w.heap.size + 2, 5, none⟩) (by simp) _) (p := ⟨w.heap.size + 2, 6, none⟩) (by simp) _) (p := ⟨w.heap.size + 2, 7, none⟩) (by simp) _) (p := ⟨w.heap.size + 2, 8, none⟩) (by simp) _) (p := ⟨w.heap.size + 2, 9, none⟩) (by simp) _) (p := ⟨w.heap.size + 2, 10, none⟩) (by simp) _) (p := ⟨w.heap.size + 2, 11, none⟩) (by simp) _) (p := ⟨w.heap.size + 2, 12, none⟩) (by simp) _)
  have hc9 : Chg (fun q => q = w.heap.size + 1 ∨ q = w.heap.size + 2) w6 ((((((((((((((w7.setCell ⟨w.heap.size + 2, 0, none⟩ (.int .i64 (kind))).setCell ⟨w.heap.size + 2, 1, none⟩ (.int .i64 (2))).setCell ⟨w.heap.size + 2, 2, none⟩ (.slice (some ad) tn tc)).setCell ⟨w.heap.size + 2, 3, none⟩ (.int .i64 ((j : Int) + 1))).setCell ⟨w.heap.size + 2, 4, none⟩ (.int .i64 (p))).setCell ⟨w.heap.size + 2, 5, none⟩ (.int .i64 (xk))).setCell ⟨w.heap.size + 2, 6, none⟩ (.int .i64 (xpc))).setCell ⟨w.heap.size + 2, 7, none⟩ (.int .i64 (xhd))).setCell ⟨w.heap.size + 2, 8, none⟩ (.slice xo xn xc)).setCell ⟨w.heap.size + 2, 9, none⟩ (.int .u32 (xi))).setCell ⟨w.heap.size + 2, 10, none⟩ (.int .u64 (xh))).setCell ⟨w.heap.size + 2, 11, none⟩ (.int .u32 (xl))).setCell ⟨w.heap.size + 2, 12, none⟩ (.int .i64 (xt)))).drew := (((((((((((((hcL.setCell ⟨w.heap.size + 2, 0, none⟩ (.int .i64 (kind)) (fun _ => .inr rfl)).setCell ⟨w.heap.size + 2, 1, none⟩ (.int .i64 (2)) (fun _ => .inr rfl)).setCell ⟨w.heap.size + 2, 2, none⟩ (.slice (some ad) tn tc) (fun _ => .inr rfl)).setCell ⟨w.heap.size + 2, 3, none⟩ (.int .i64 ((j : Int) + 1)) (fun _ => .inr rfl)).setCell ⟨w.heap.size + 2, 4, none⟩ (.int .i64 (p)) (fun _ => .inr rfl)).setCell ⟨w.heap.size + 2, 5, none⟩ (.int .i64 (xk)) (fun _ => .inr rfl)).setCell ⟨w.heap.size + 2, 6, none⟩ (.int .i64 (xpc)) (fun _ => .inr rfl)).setCell ⟨w.heap.size + 2, 7, none⟩ (.int .i64 (xhd)) (fun _ => .inr rfl)).setCell ⟨w.heap.size + 2, 8, none⟩ (.slice xo xn xc) (fun _ => .inr rfl)).setCell ⟨w.heap.size + 2, 9, none⟩ (.int .u32 (xi)) (fun _ => .inr rfl)).setCell ⟨w.heap.size + 2, 10, none⟩ (.int .u64 (xh)) (fun _ => .inr rfl)).setCell ⟨w.heap.size + 2, 11, none⟩ (.int .u32 (xl)) (fun _ => .inr rfl)).setCell ⟨w.heap.size + 2, 12, none⟩ (.int .i64 (xt)) (fun _ => .inr rfl)).drew
  generalize ((((((((((((((w7.setCell ⟨w.heap.size + 2, 0, none⟩ (.int .i64 (kind))).setCell ⟨w.heap.size + 2, 1, none⟩ (.int .i64 (2))).setCell ⟨w.heap.size + 2, 2, none⟩ (.slice (some ad) tn tc)).setCell ⟨w.heap.size + 2, 3, none⟩ (.int .i64 ((j : Int) + 1))).setCell ⟨w.heap.size + 2, 4, none⟩ (.int .i64 (p))).setCell ⟨w.heap.size + 2, 5, none⟩ (.int .i64 (xk))).setCell ⟨w.heap.size + 2, 6, none⟩ (.int .i64 (xpc))).setCell ⟨w.heap.size + 2, 7, none⟩ (.int .i64 (xhd))).setCell ⟨w.heap.size + 2, 8, none⟩ (.slice xo xn xc)).setCell ⟨w.heap.size + 2, 9, none⟩ (.int .u32 (xi))).setCell ⟨w.heap.size + 2, 10, none⟩ (.int .u64 (xh))).setCell ⟨w.heap.size + 2, 11, none⟩ (.int .u32 (xl))).setCell ⟨w.heap.size + 2, 12, none⟩ (.int .i64 (xt)))).drew = w9 at *
  clear b0 b1 b2 b3 b4 b5 b6 b7 b8 b9 b10 b11 b12  r0 r1 r2 r3 r4 r5 r6 r7 r8 r9 r10 r11 r12 fr0 fr1 fr2 fr3 fr4 fr5 fr6 fr7 fr8 fr9 fr10 fr11 fr12 d0 d1 d2 d3 d4 d5 d6 d7 d8 d9 d10 d11 d12  s0 s1 s2 s3 s4 s5 s6 s7 s8 s9 s10 s11 s12 fs0 fs1 fs2 fs3 fs4 fs5 fs6 fs7 fs8 fs9 fs10 fs11 fs12
  have k0 := hr9.cell 0
  have k1 := hr9.cell 1
  have k2 := hr9.cell 2
  have k3 := hr9.cell 3
  have k4 := hr9.cell 4
  have k5 := hr9.cell 5
  have k6 := hr9.cell 6
  have k7 := hr9.cell 7
  have k8 := hr9.cell 8
  have k9 := hr9.cell 9
  have k10 := hr9.cell 10
  have k11 := hr9.cell 11
  have k12 := hr9.cell 12
  simp only [List.getElem?_cons_zero, List.getElem?_cons_succ] at k0 k1 k2 k3 k4 k5 k6 k7 k8 k9 k10 k11 k12
  go_wp2_with fail
  exact bodyPost_ret (v := .tuple #[l', .agg ([.int .i64 (kind), .int .i64 (2), .slice (some ad) tn tc, .int .i64 ((j : Int) + 1), .int .i64 (p), .int .i64 (xk), .int .i64 (xpc), .int .i64 (xhd), .slice xo xn xc, .int .u32 (xi), .int .u64 (xh), .int .u32 (xl), .int .i64 (xt)] : List Value).toArray]) (by simp [results, Tryz.results48, go_sem, k0, k1, k2, k3, k4, k5, k6, k7, k8, k9, k10, k11, k12]) rfl ⟨_, _, _, rfl, (HM.out w (Below.refl _ _)).past hl' (by simp [mput_len]) (fun q e => by omega) hown hc9, ⟨⟨hp0, hp1⟩, ⟨by have := HJT.out; show j + 1 ≤ tasks.length; omega, hj1⟩, kind, xk, xpc, xhd, xi, xh, xl, xt, rfl, HT.out _ hk9, ⟨xo, xn, xc, rfl⟩, fun e => by rcases e with e | e <;> cases e⟩, hk9, fun g e => (hown g e).imp id (fun e => by omega), (by first | (intro e; rcases e with e | e <;> cases e; done) | (intro _ g _; exact .inl ⟨by simp, rfl⟩))⟩

end Go.Proofs.YtfbcadknimfhjaaGreat
