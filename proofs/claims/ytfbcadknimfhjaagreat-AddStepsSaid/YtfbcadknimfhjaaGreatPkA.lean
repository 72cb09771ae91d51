/- Worlds and blocks: what changed between two worlds; a block's cells. Nothing of the program. Sizes and configurations, walked. Where things stand in memory: the numbers of a configuration's map. No program. min and max of two integers as Lean's own, unparted. Import it where a walk shall not part on them. Numbers in words, walked. -/
import Derived.WalkKit
import Derived.WalkSpells
import Derived.WalkLawsBesides
import Derived.Test.YtfbcadknimfhjaaGreatRows
import Derived.Deep.LoopGhost
import Derived.Deep.QuietTactic
import Derived.BigQuiet
namespace Go.Proofs.YtfbcadknimfhjaaGreat
open Go Go.RowKit

/-- A call through a function value in a slot. -/
def callSlot (v : Value) (xs : Array Value) : Sem Next := do
  let d ← Deferred.ofValue v xs
  invoke d.target d.args

@[go_sem ↓] theorem execOp_call_slot (a : Act) (dst : Option Tmp) (t : Tmp) (xs : Array Operand) (ats : Array TypeId) (ty : TypeId) (pos : String) (after : Array Edge) (guard : Option (Nat × Bool)) :
    execOp a.eval { dst, op := .call { callee := .value (.tmp t), args := xs, argTypes := ats }, type := ty, pos, after, guard } = callSlot (a.eval (.tmp t)) (xs.map a.eval) := rfl

@[go_sem] theorem callSlot_func (f : FuncId) (first captured xs : Array Value) : callSlot (.func (.func f) first captured) xs = callFunc f (first ++ xs ++ captured) := rfl

/-- A row of cells, none frozen. -/
abbrev Blk (w : World) (b : Nat) (t : TypeId) (l : List Value) : Prop := w.heap[b]? = some (.cells l.toArray t (0, 0))

theorem Blk.lt {w : World} {b t l} (h : Blk w b t l) : b < w.heap.size := lt_of_block h

theorem Blk.cell {w : World} {b t l} (h : Blk w b t l) (i : Nat) : w.cell? ⟨b, i, none⟩ = l[i]? := by
  rw [cell_of_row w b i _ t _ h]; simp

theorem Blk.free {w : World} {b t l} (h : Blk w b t l) (i : Nat) : w.frozen? ⟨b, i, none⟩ = false := frozen_of_row w b i _ t h

theorem Blk.set {w : World} {b t l} (h : Blk w b t l) (i : Nat) (v : Value) : Blk (w.setCell ⟨b, i, none⟩ v) b t (l.set i v) := by
  have := heap_setCell_same w b i _ t v h
  unfold Blk
  rw [this]; simp

/-- A cell written into an object. -/
def putObj (o : Obj) (i : Nat) (v : Value) : Obj := match o with
  | .cells c e fr => .cells (c.setIfInBounds i v) e fr
  | o => o

@[simp] theorem putObj_cells (c : Array Value) (e : TypeId) (fr : Nat × Nat) (i : Nat) (v : Value) : putObj (.cells c e fr) i v = .cells (c.setIfInBounds i v) e fr := rfl

theorem heap_set_get (w : World) (b i : Nat) (v : Value) (k : Nat) : (w.setCell ⟨b, i, none⟩ v).heap[k]? = if k = b then (w.heap[k]?).map (fun o => putObj o i v) else w.heap[k]? := by
  simp only [World.setCell, Array.getElem?_modify]
  by_cases h : k = b
  · subst h
    simp only [if_true]
    cases w.heap[k]? with
    | none => rfl
    | some o => cases o <;> rfl
  · rw [if_neg h, if_neg (by omega)]

theorem heap_alloc_get (w : World) (o : Obj) (k : Nat) : (w.alloc o).heap[k]? = if k = w.heap.size then some o else w.heap[k]? := by
  show (w.heap.push o)[k]? = _
  rw [Array.getElem?_push]

theorem heap_drew_get (w : World) (k : Nat) : w.drew.heap[k]? = w.heap[k]? := rfl

theorem Blk.to {w : World} {b t l l'} (h : Blk w b t l) (e : l = l') : Blk w b t l' := e ▸ h

theorem Blk.set' {w : World} {b t l l'} (h : Blk w b t l) (i : Nat) (v : Value) (e : l.set i v = l') : Blk (w.setCell ⟨b, i, none⟩ v) b t l' := e ▸ h.set i v

theorem Blk.setOther {w : World} {b t l} (h : Blk w b t l) (a : Addr) (v : Value) (hn : b ≠ a.block) : Blk (w.setCell a v) b t l := by
  unfold Blk; rw [heap_setCell_other _ _ _ _ hn]; exact h

theorem Blk.alloc {w : World} {b t l} (h : Blk w b t l) (o : Obj) : Blk (w.alloc o) b t l := by
  unfold Blk; rw [Below.heap_alloc _ _ _ h.lt]; exact h

theorem Blk.new (w : World) (t : TypeId) (l : List Value) : Blk (w.alloc (.cells l.toArray t)) w.heap.size t l := heap_alloc_new w _

theorem Blk.drew {w : World} {b t l} (h : Blk w b t l) : Blk w.drew b t l := h

/-- What may have changed: the blocks of S; new blocks. -/
structure Chg (S : Nat → Prop) (w w' : World) : Prop where
  os : w'.os = w.os
  tape : w'.tape = w.tape
  output : w'.output = w.output
  size : w.heap.size ≤ w'.heap.size
  block : ∀ k, k < w.heap.size → ¬ S k → w'.heap[k]? = w.heap[k]?

theorem Chg.refl (S : Nat → Prop) (w : World) : Chg S w w := ⟨rfl, rfl, rfl, Nat.le_refl _, fun _ _ _ => rfl⟩

theorem Chg.trans {S : Nat → Prop} {a b c : World} (h : Chg S a b) (k : Chg S b c) : Chg S a c :=
  ⟨k.os.trans h.os, k.tape.trans h.tape, k.output.trans h.output, Nat.le_trans h.size k.size,
   fun i hi hs => (k.block i (Nat.lt_of_lt_of_le hi h.size) hs).trans (h.block i hi hs)⟩

theorem Chg.mono {S T : Nat → Prop} {w w' : World} (h : Chg S w w') (hs : ∀ k, k < w.heap.size → S k → T k) : Chg T w w' :=
  ⟨h.os, h.tape, h.output, h.size, fun k hk hn => h.block k hk (fun x => hn (hs k hk x))⟩

/-- A step whose blocks are S, or new since a. -/
theorem Chg.thenNew {S T : Nat → Prop} {a b c : World} (h : Chg S a b) (k : Chg T b c) (hs : ∀ i, i < a.heap.size → T i → S i) : Chg S a c :=
  ⟨k.os.trans h.os, k.tape.trans h.tape, k.output.trans h.output, Nat.le_trans h.size k.size,
   fun i hi hn => (k.block i (Nat.lt_of_lt_of_le hi h.size) (fun x => hn (hs i hi x))).trans (h.block i hi hn)⟩

theorem Chg.drew {S : Nat → Prop} {a w : World} (h : Chg S a w) : Chg S a w.drew := ⟨h.os, h.tape, h.output, h.size, h.block⟩

theorem Chg.alloc {S : Nat → Prop} {a w : World} (h : Chg S a w) (o : Obj) : Chg S a (w.alloc o) :=
  h.trans ⟨rfl, rfl, rfl, by simp, fun k hk _ => Below.heap_alloc _ _ _ hk⟩

theorem Chg.setCell {S : Nat → Prop} {a w : World} (h : Chg S a w) (p : Addr) (u : Value) (hp : p.block < a.heap.size → S p.block) : Chg S a (w.setCell p u) :=
  h.thenNew (T := fun k => k = p.block) ⟨rfl, rfl, rfl, by simp, fun k _ hn => heap_setCell_other _ _ _ _ hn⟩ (fun i hi e => by subst e; exact hp hi)

theorem Chg.grown {S : Nat → Prop} {a w w' : World} {row : Option Nat} (h : Chg S a w) (hg : w.grownBy w' row) (hr : ∀ k, row = some k → k < a.heap.size → S k) : Chg S a w' :=
  h.thenNew (T := fun k => row = some k) ⟨hg.os, hg.tape, hg.output, hg.size, fun k hk hn => hg.block k hk (fun e => hn e.symm)⟩ (fun i hi e => hr i e hi)

theorem Chg.blk {S : Nat → Prop} {w w' : World} (h : Chg S w w') {b t l} (hb : Blk w b t l) (hn : ¬ S b) : Blk w' b t l := by
  unfold Blk; rw [h.block b hb.lt hn]; exact hb

theorem Chg.toBelow {S : Nat → Prop} {w w' : World} (h : Chg S w w') {B : Nat} (hB : B ≤ w.heap.size) (hs : ∀ k, k < B → ¬ S k) : Below B w w' :=
  ⟨h.os, h.tape, h.output, h.size, fun k hk => h.block k (by omega) (hs k hk)⟩

theorem Chg.ofBelow {S : Nat → Prop} {w w' : World} (h : Below w.heap.size w w') : Chg S w w' := ⟨h.os, h.tape, h.output, h.size, fun k hk _ => h.block k hk⟩

/-- Nothing old has changed. -/
abbrev Kept (w w' : World) : Prop := Below w.heap.size w w'

theorem Kept.trans' {a b c : World} (h : Kept a b) (k : Kept b c) : Kept a c := Below.trans h (k.mono h.size)

theorem Kept.blk {w w' : World} (h : Kept w w') {b t l} (hb : Blk w b t l) : Blk w' b t l := by
  unfold Blk; rw [h.block b hb.lt]; exact hb

theorem ownsRow_base {w : World} {base : Nat} {e : TypeId} {size : Nat} {v : Value} {n : Nat} {xs : List Value} (h : w.ownsRow base e size v n xs) : ∀ g, v.ownBlock = some g → base ≤ g ∧ g < w.heap.size := by
  intro g hg
  rcases h.2 with ⟨rfl, _⟩ | ⟨g', cap, cur, rfl, hb, hh, _⟩
  · simp [Value.ownBlock] at hg
  · simp [Value.ownBlock] at hg; subst hg; exact ⟨hb, lt_of_block hh⟩

theorem ownsRow_mono {w : World} {base base' : Nat} {e : TypeId} {size : Nat} {v : Value} {n : Nat} {xs : List Value} (h : w.ownsRow base e size v n xs) (hb : base' ≤ base) : w.ownsRow base' e size v n xs := by
  refine ⟨h.1, ?_⟩
  rcases h.2 with h0 | ⟨g, cap, cur, hv, hg, hr⟩
  · exact .inl h0
  · exact .inr ⟨g, cap, cur, hv, by omega, hr⟩

/-- A slice of one-cell elements that is read. -/
structure Row (w : World) (v : Value) (xs : List Value) : Prop where
  ex : ∃ ao cap, v = .slice ao xs.length cap ∧ xs.length ≤ maxLen ∧ (∀ i u, xs[i]? = some u → ∃ g, ao = some ⟨g, 0, none⟩ ∧ g < w.heap.size ∧ w.cell? ⟨g, i, none⟩ = some u)

theorem Row.ofOwn {w : World} {base e v n xs} (h : w.ownsRow base e 1 v n xs) : Row w v xs := by
  have hl : xs.length = n := by simpa using h.1
  subst hl
  rcases h.2 with ⟨rfl, h0⟩ | ⟨g, cap, cur, rfl, hb, hh, h1, h2, h3, h4⟩
  · exact ⟨none, 0, by rw [h0], by omega, fun i u hi => by
      have : i < xs.length := by rcases Nat.lt_or_ge i xs.length with h' | h'
                                 · exact h'
                                 · rw [List.getElem?_eq_none h'] at hi; cases hi
      omega⟩
  · refine ⟨some ⟨g, 0, none⟩, cap, rfl, by omega, fun i u hi => ⟨g, rfl, lt_of_block hh, ?_⟩⟩
    rw [cell_of_row w g i _ _ _ hh]
    simp only [Nat.mul_one] at h4
    rw [← h4, List.getElem?_take] at hi
    split at hi
    · rw [← Array.getElem?_toList]; exact hi
    · cases hi

theorem Row.kept {w w' : World} {v xs} (h : Row w v xs) (k : Kept w w') : Row w' v xs := by
  obtain ⟨ao, cap, hv, hm, hc⟩ := h.ex
  refine ⟨ao, cap, hv, hm, fun i u hi => ?_⟩
  obtain ⟨g, hg, hl, hcell⟩ := hc i u hi
  exact ⟨g, hg, Nat.lt_of_lt_of_le hl k.size, by rw [Below.cell k hl]; exact hcell⟩

/-- A slice of one-cell elements that is read, below a block number. -/
structure RowIn (w : World) (B : Nat) (v : Value) (xs : List Value) : Prop where
  ex : ∃ ao cap, v = .slice ao xs.length cap ∧ xs.length ≤ maxLen ∧ (∀ i u, xs[i]? = some u → ∃ g, ao = some ⟨g, 0, none⟩ ∧ g < B ∧ w.cell? ⟨g, i, none⟩ = some u)

theorem Row.into {w : World} {v xs} (h : Row w v xs) : RowIn w w.heap.size v xs := ⟨h.ex⟩

theorem RowIn.below {w w' : World} {B B' : Nat} {v xs} (h : RowIn w B v xs) (k : Below B' w w') (hB : B ≤ B') : RowIn w' B v xs := by
  obtain ⟨ao, cap, hv, hm, hc⟩ := h.ex
  refine ⟨ao, cap, hv, hm, fun i u hi => ?_⟩
  obtain ⟨g, hg, hl, hcell⟩ := hc i u hi
  exact ⟨g, hg, hl, by rw [Below.cell k (by exact Nat.lt_of_lt_of_le hl hB)]; exact hcell⟩

theorem RowIn.mono {w : World} {B B' : Nat} {v xs} (h : RowIn w B v xs) (hB : B ≤ B') : RowIn w B' v xs := by
  obtain ⟨ao, cap, hv, hm, hc⟩ := h.ex
  refine ⟨ao, cap, hv, hm, fun i u hi => ?_⟩
  obtain ⟨g, hg, hl, hcell⟩ := hc i u hi
  exact ⟨g, hg, by omega, hcell⟩

theorem ret_int {k : IntKind} {a b : Int} (h : a = b) : Ending.returned (.int k a) = .returned (.int k b) := by rw [h]
theorem ret_bool {a b : Bool} (h : a = b) : Ending.returned (.bool a) = .returned (.bool b) := by rw [h]

end Go.Proofs.YtfbcadknimfhjaaGreat

namespace Go.Proofs.YtfbcadknimfhjaaGreat
open Go.RowKit

/-- How many slots a class has. -/
def slotsI (k : Int) : Int := if k = 0 then 1 else if k = 1 then 2 else if k = 2 then 4 else if k = 3 then 8 else if k = 4 then 16 else 0

def clampI (lo n hi : Int) : Int := min (max lo n) hi

theorem is_any (n : Int) (w : World) :
    Calls Tryz.prog 64 #[.int .i64 n] w fun e w' => e = .returned (.bool (decide (0 ≤ n) && decide (n < 5))) ∧ w = w' := by
  go_enter Tryz.func64, Tryz.ntmps64
  go_wp2
  all_goals go_ret
  · exact ⟨by simp [*], rfl⟩
  · exact ⟨ret_bool (by simp; intro; omega), rfl⟩

theorem bound_any (n : Int) (w : World) :
    Calls Tryz.prog 63 #[.int .i64 n] w fun e w' => e = .returned (.int .i64 (clampI 0 n 12)) ∧ w = w' := by
  go_enter Tryz.func63, Tryz.ntmps63
  go_wp2
  all_goals go_ret
  all_goals exact ⟨ret_int (by unfold clampI; split at * <;> omega), rfl⟩

theorem slots_no (n : Int) (w : World) (h : ¬ (0 ≤ n ∧ n < 5)) :
    Calls Tryz.prog 29 #[.int .i64 n] w fun e w' => e = .returned (.int .i64 0) ∧ w = w' := by
  have hb : (decide (0 ≤ n) && decide (n < 5)) = false := by
    rw [Bool.and_eq_false_iff]; simp; omega
  go_enter Tryz.func29, Tryz.ntmps29
  go_wp2_with (go_at_call 64; refine (is_any _ _).mono ?_; rintro e w' ⟨rfl, rfl⟩; rw [hb])
  go_ret
  exact ⟨rfl, rfl⟩

theorem slots_yes (n : Int) (w : World) (h0 : 0 ≤ n) (h1 : n < 5) :
    Calls Tryz.prog 29 #[.int .i64 n] w fun e w' => e = .returned (.int .i64 (slotsI n)) ∧ w = w' := by
  have : n = 0 ∨ n = 1 ∨ n = 2 ∨ n = 3 ∨ n = 4 := by omega
  rcases this with rfl | rfl | rfl | rfl | rfl
  all_goals
    go_enter Tryz.func29, Tryz.ntmps29
    go_wp2
    go_ret
    exact ⟨rfl, rfl⟩

theorem slots_any (n : Int) (w : World) :
    Calls Tryz.prog 29 #[.int .i64 n] w fun e w' => e = .returned (.int .i64 (slotsI n)) ∧ w = w' := by
  by_cases h : 0 ≤ n ∧ n < 5
  · exact slots_yes n w h.1 h.2
  · have : slotsI n = 0 := by unfold slotsI; repeat (rw [if_neg (by omega)])
    rw [this]; exact slots_no n w h

theorem index5_0 (a b c d e : Int) (w : World) : (Instr.index 22 (.agg #[.int .i64 a, .int .i64 b, .int .i64 c, .int .i64 d, .int .i64 e]) (.int .i64 0)).run Tryz.prog w = .ok (.int .i64 a) w := by kernel_rfl

theorem index5_1 (a b c d e : Int) (w : World) : (Instr.index 22 (.agg #[.int .i64 a, .int .i64 b, .int .i64 c, .int .i64 d, .int .i64 e]) (.int .i64 1)).run Tryz.prog w = .ok (.int .i64 b) w := by kernel_rfl

theorem index5_2 (a b c d e : Int) (w : World) : (Instr.index 22 (.agg #[.int .i64 a, .int .i64 b, .int .i64 c, .int .i64 d, .int .i64 e]) (.int .i64 2)).run Tryz.prog w = .ok (.int .i64 c) w := by kernel_rfl

theorem index5_3 (a b c d e : Int) (w : World) : (Instr.index 22 (.agg #[.int .i64 a, .int .i64 b, .int .i64 c, .int .i64 d, .int .i64 e]) (.int .i64 3)).run Tryz.prog w = .ok (.int .i64 d) w := by kernel_rfl

theorem index5_4 (a b c d e : Int) (w : World) : (Instr.index 22 (.agg #[.int .i64 a, .int .i64 b, .int .i64 c, .int .i64 d, .int .i64 e]) (.int .i64 4)).run Tryz.prog w = .ok (.int .i64 e) w := by kernel_rfl

theorem index5 (a b c d e : Int) (k : Nat) (hk : k < 5) (w : World) :
    (Instr.index 22 (.agg #[.int .i64 a, .int .i64 b, .int .i64 c, .int .i64 d, .int .i64 e]) (.int .i64 k)).run Tryz.prog w = .ok (.int .i64 ([a, b, c, d, e][k]?.getD 0)) w := by
  have : k = 0 ∨ k = 1 ∨ k = 2 ∨ k = 3 ∨ k = 4 := by omega
  rcases this with rfl | rfl | rfl | rfl | rfl
  · exact index5_0 a b c d e w
  · exact index5_1 a b c d e w
  · exact index5_2 a b c d e w
  · exact index5_3 a b c d e w
  · exact index5_4 a b c d e w

/-- A configuration's numbers. -/
structure Cfg where
  c0 : Int
  c1 : Int
  c2 : Int
  c3 : Int
  c4 : Int
  mks : Int
  mus : Int
  dq : Int
  ch : Int
  bu : Int
  ro : Int
  sw : Int

def inB (n lo hi : Int) : Bool := decide (lo ≤ n) && decide (n ≤ hi)

theorem inB_iff (n lo hi : Int) : inB n lo hi = true ↔ lo ≤ n ∧ n ≤ hi := by simp [inB]
theorem inB_not (n lo hi : Int) : inB n lo hi = false ↔ ¬ (lo ≤ n ∧ n ≤ hi) := by rw [← inB_iff]; simp

/-- How many cells, each number cut to what may be. -/
def nodesI (c : Cfg) : Int := clampI 0 c.c0 12 + clampI 0 c.c1 12 + clampI 0 c.c2 12 + clampI 0 c.c3 12 + clampI 0 c.c4 12

/-- A configuration that may be. -/
def Good (c : Cfg) : Prop := (0 ≤ c.c0 ∧ c.c0 ≤ 12) ∧ (0 ≤ c.c1 ∧ c.c1 ≤ 12) ∧ (0 ≤ c.c2 ∧ c.c2 ≤ 12) ∧ (0 ≤ c.c3 ∧ c.c3 ≤ 12) ∧ (0 ≤ c.c4 ∧ c.c4 ≤ 12) ∧
  (1 ≤ c.mks ∧ c.mks ≤ 4) ∧ (1 ≤ c.mus ∧ c.mus ≤ 4) ∧ (2 ≤ c.dq ∧ c.dq ≤ 8) ∧ (1 ≤ c.ch ∧ c.ch ≤ 16) ∧ (1 ≤ c.bu ∧ c.bu ≤ 4) ∧ (1 ≤ c.ro ∧ c.ro ≤ 8) ∧ (1 ≤ c.sw ∧ c.sw ≤ 16) ∧ 0 < c.c0 + c.c1 + c.c2 + c.c3 + c.c4

instance (c : Cfg) : Decidable (Good c) := by unfold Good; infer_instance

def errI (c : Cfg) : Int := if Good c then 0 else 21

theorem in_any (n lo hi : Int) (w : World) :
    Calls Tryz.prog 62 #[.int .i64 n, .int .i64 lo, .int .i64 hi] w fun e w' => e = .returned (.bool (inB n lo hi)) ∧ w = w' := by
  go_enter Tryz.func62, Tryz.ntmps62
  go_wp2
  all_goals go_ret
  all_goals exact ⟨ret_bool (by unfold inB; simp; omega), rfl⟩

theorem in_is {n lo hi : Int} {b : Bool} (h : inB n lo hi = b) (w : World) :
    Calls Tryz.prog 62 #[.int .i64 n, .int .i64 lo, .int .i64 hi] w fun e w' => e = .returned (.bool b) ∧ w = w' := h ▸ in_any n lo hi w

theorem nodes_any (a b c d e : Int) (w : World) :
    Calls Tryz.prog 28 #[.agg #[.int .i64 a, .int .i64 b, .int .i64 c, .int .i64 d, .int .i64 e]] w fun r w' =>
      r = .returned (.int .i64 (clampI 0 a 12 + clampI 0 b 12 + clampI 0 c 12 + clampI 0 d 12 + clampI 0 e 12)) ∧ Kept w w' := by
  have i0 : ∀ W, (Instr.index 22 (.agg #[.int .i64 a, .int .i64 b, .int .i64 c, .int .i64 d, .int .i64 e]) (.int .i64 0)).run Tryz.prog W = .ok (.int .i64 a) W := fun W => index5 a b c d e 0 (by omega) W
  have i1 : ∀ W, (Instr.index 22 (.agg #[.int .i64 a, .int .i64 b, .int .i64 c, .int .i64 d, .int .i64 e]) (.int .i64 1)).run Tryz.prog W = .ok (.int .i64 b) W := fun W => index5 a b c d e 1 (by omega) W
  have i2 : ∀ W, (Instr.index 22 (.agg #[.int .i64 a, .int .i64 b, .int .i64 c, .int .i64 d, .int .i64 e]) (.int .i64 2)).run Tryz.prog W = .ok (.int .i64 c) W := fun W => index5 a b c d e 2 (by omega) W
  have i3 : ∀ W, (Instr.index 22 (.agg #[.int .i64 a, .int .i64 b, .int .i64 c, .int .i64 d, .int .i64 e]) (.int .i64 3)).run Tryz.prog W = .ok (.int .i64 d) W := fun W => index5 a b c d e 3 (by omega) W
  have i4 : ∀ W, (Instr.index 22 (.agg #[.int .i64 a, .int .i64 b, .int .i64 c, .int .i64 d, .int .i64 e]) (.int .i64 4)).run Tryz.prog W = .ok (.int .i64 e) W := fun W => index5 a b c d e 4 (by omega) W
  have b0 : 0 ≤ clampI 0 a 12 ∧ clampI 0 a 12 ≤ 12 := by unfold clampI; omega
  have b1 : 0 ≤ clampI 0 b 12 ∧ clampI 0 b 12 ≤ 12 := by unfold clampI; omega
  have b2 : 0 ≤ clampI 0 c 12 ∧ clampI 0 c 12 ≤ 12 := by unfold clampI; omega
  have b3 : 0 ≤ clampI 0 d 12 ∧ clampI 0 d 12 ≤ 12 := by unfold clampI; omega
  have b4 : 0 ≤ clampI 0 e 12 ∧ clampI 0 e 12 ≤ 12 := by unfold clampI; omega
  obtain ⟨b0, b0'⟩ := b0
  obtain ⟨b1, b1'⟩ := b1
  obtain ⟨b2, b2'⟩ := b2
  obtain ⟨b3, b3'⟩ := b3
  obtain ⟨b4, b4'⟩ := b4
  go_enter Tryz.func28, Tryz.ntmps28
  go_wp2_with fail
  refine wp_loop_rounds 6 ?_
  iterate 6 (rw [rounds_succ]; go_wp2_with (go_at_call 63; refine (bound_any _ _).mono ?_; rintro r w1 ⟨rfl, rfl⟩))
  go_ret
  exact ⟨rfl, (Below.refl _ _).alloc (Nat.le_refl _) _⟩

/-- The list of cells, in what may be, so far. -/
def InTo (cs : List Int) (k : Nat) : Prop := ∀ j, j < k → inB (cs[j]?.getD 0) 0 12 = true

theorem InTo.five {a b c d e : Int} (h : InTo [a, b, c, d, e] 5) : (0 ≤ a ∧ a ≤ 12) ∧ (0 ≤ b ∧ b ≤ 12) ∧ (0 ≤ c ∧ c ≤ 12) ∧ (0 ≤ d ∧ d ≤ 12) ∧ (0 ≤ e ∧ e ≤ 12) :=
  ⟨(inB_iff _ _ _).1 (h 0 (by omega)), (inB_iff _ _ _).1 (h 1 (by omega)), (inB_iff _ _ _).1 (h 2 (by omega)), (inB_iff _ _ _).1 (h 3 (by omega)), (inB_iff _ _ _).1 (h 4 (by omega))⟩

theorem InTo.succ {cs : List Int} {k : Nat} (h : InTo cs k) (hk : inB (cs[k]?.getD 0) 0 12 = true) : InTo cs (k + 1) := by
  intro j hj
  by_cases e : j = k
  · subst e; exact hk
  · exact h j (by omega)

theorem errI_bad {c : Cfg} {k : Nat} (hk : k < 5) (h : inB (([c.c0, c.c1, c.c2, c.c3, c.c4] : List Int)[k]?.getD 0) 0 12 = false) : errI c = 21 := by
  unfold errI
  rw [if_neg]
  intro hg
  rw [inB_not] at h
  obtain ⟨g0, g1, g2, g3, g4, _⟩ := hg
  have : k = 0 ∨ k = 1 ∨ k = 2 ∨ k = 3 ∨ k = 4 := by omega
  rcases this with rfl | rfl | rfl | rfl | rfl
  · exact h g0
  · exact h g1
  · exact h g2
  · exact h g3
  · exact h g4

set_option maxHeartbeats 1600000 in
theorem check_any (c : Cfg) (w : World) :
    Calls Tryz.prog 27 #[.agg #[.int .i64 c.c0, .int .i64 c.c1, .int .i64 c.c2, .int .i64 c.c3, .int .i64 c.c4, .int .i64 c.mks, .int .i64 c.mus, .int .i64 c.dq, .int .i64 c.ch, .int .i64 c.bu, .int .i64 c.ro, .int .i64 c.sw]] w fun r w' => r = .returned (.int .i64 (errI c)) ∧ Kept w w' := by
  generalize hcs : [c.c0, c.c1, c.c2, c.c3, c.c4] = cs
  have hidx : ∀ (k : Nat), k < 5 → ∀ W, (Instr.index 22 (.agg #[.int .i64 c.c0, .int .i64 c.c1, .int .i64 c.c2, .int .i64 c.c3, .int .i64 c.c4]) (.int .i64 k)).run Tryz.prog W = .ok (.int .i64 (cs[k]?.getD 0)) W := fun k hk W => by rw [← hcs]; exact index5 _ _ _ _ _ k hk W
  go_enter Tryz.func27, Tryz.ntmps27
  go_wp2_with fail
  go_loop [8] (fun i => ∃ k : Nat, k ≤ 5 ∧ i = .int .i64 k ∧ InTo cs k) (fun i => 5 - (intOf i).toNat)
  case atStart => exact ⟨0, by omega, rfl, fun j hj => by omega⟩
  case round =>
    obtain ⟨k, hk, rfl, hin⟩ := hrel
    by_cases hlt : (k : Int) < 5
    · have hi := hidx k (by omega)
      clear hidx
      go_wp2_with (go_at_call 62; refine (in_any _ _ _ _).mono ?_; rintro r w1 ⟨rfl, rfl⟩)
      · go_ret
        exact ⟨ret_int (errI_bad (k := k) (by omega) (by rw [hcs]; simpa using ‹(!inB (cs[k]?.getD 0) 0 12) = true›)).symm, (Below.refl _ _).alloc (Nat.le_refl _) _⟩
      · refine ⟨⟨k + 1, by omega, by go_num, hin.succ (by simpa using ‹(!inB (cs[k]?.getD 0) 0 12) = false›)⟩, by simp [intOf]; omega⟩
    · obtain rfl : k = 5 := by omega
      rw [← hcs] at hin
      have H5 := hin
      clear hidx hin hcs hlt
      by_cases g0 : inB c.mks 1 4 = false
      · go_wp2_with (first | (go_at_call 62; refine (in_is (by assumption) _).mono ?_; rintro r w1 ⟨rfl, rfl⟩) | (go_at_call 28; refine (nodes_any _ _ _ _ _ _).mono ?_; rintro r w1 ⟨rfl, hk1⟩))
        go_ret
        exact ⟨ret_int (by unfold errI; rw [if_neg]; intro hg; rw [inB_not] at g0; unfold Good at hg; omega), (Below.refl _ _).alloc (Nat.le_refl _) _⟩
      replace g0 : inB c.mks 1 4 = true := by simpa using g0
      by_cases g1 : inB c.mus 1 4 = false
      · go_wp2_with (first | (go_at_call 62; refine (in_is (by assumption) _).mono ?_; rintro r w1 ⟨rfl, rfl⟩) | (go_at_call 28; refine (nodes_any _ _ _ _ _ _).mono ?_; rintro r w1 ⟨rfl, hk1⟩))
        go_ret
        exact ⟨ret_int (by unfold errI; rw [if_neg]; intro hg; rw [inB_not] at g1; unfold Good at hg; omega), (Below.refl _ _).alloc (Nat.le_refl _) _⟩
      replace g1 : inB c.mus 1 4 = true := by simpa using g1
      by_cases g2 : inB c.dq 2 8 = false
      · go_wp2_with (first | (go_at_call 62; refine (in_is (by assumption) _).mono ?_; rintro r w1 ⟨rfl, rfl⟩) | (go_at_call 28; refine (nodes_any _ _ _ _ _ _).mono ?_; rintro r w1 ⟨rfl, hk1⟩))
        go_ret
        exact ⟨ret_int (by unfold errI; rw [if_neg]; intro hg; rw [inB_not] at g2; unfold Good at hg; omega), (Below.refl _ _).alloc (Nat.le_refl _) _⟩
      replace g2 : inB c.dq 2 8 = true := by simpa using g2
      by_cases g3 : inB c.ch 1 16 = false
      · go_wp2_with (first | (go_at_call 62; refine (in_is (by assumption) _).mono ?_; rintro r w1 ⟨rfl, rfl⟩) | (go_at_call 28; refine (nodes_any _ _ _ _ _ _).mono ?_; rintro r w1 ⟨rfl, hk1⟩))
        go_ret
        exact ⟨ret_int (by unfold errI; rw [if_neg]; intro hg; rw [inB_not] at g3; unfold Good at hg; omega), (Below.refl _ _).alloc (Nat.le_refl _) _⟩
      replace g3 : inB c.ch 1 16 = true := by simpa using g3
      by_cases g4 : inB c.bu 1 4 = false
      · go_wp2_with (first | (go_at_call 62; refine (in_is (by assumption) _).mono ?_; rintro r w1 ⟨rfl, rfl⟩) | (go_at_call 28; refine (nodes_any _ _ _ _ _ _).mono ?_; rintro r w1 ⟨rfl, hk1⟩))
        go_ret
        exact ⟨ret_int (by unfold errI; rw [if_neg]; intro hg; rw [inB_not] at g4; unfold Good at hg; omega), (Below.refl _ _).alloc (Nat.le_refl _) _⟩
      replace g4 : inB c.bu 1 4 = true := by simpa using g4
      by_cases g5 : inB c.ro 1 8 = false
      · go_wp2_with (first | (go_at_call 62; refine (in_is (by assumption) _).mono ?_; rintro r w1 ⟨rfl, rfl⟩) | (go_at_call 28; refine (nodes_any _ _ _ _ _ _).mono ?_; rintro r w1 ⟨rfl, hk1⟩))
        go_ret
        exact ⟨ret_int (by unfold errI; rw [if_neg]; intro hg; rw [inB_not] at g5; unfold Good at hg; omega), (Below.refl _ _).alloc (Nat.le_refl _) _⟩
      replace g5 : inB c.ro 1 8 = true := by simpa using g5
      by_cases g6 : inB c.sw 1 16 = false
      · go_wp2_with (first | (go_at_call 62; refine (in_is (by assumption) _).mono ?_; rintro r w1 ⟨rfl, rfl⟩) | (go_at_call 28; refine (nodes_any _ _ _ _ _ _).mono ?_; rintro r w1 ⟨rfl, hk1⟩))
        go_ret
        exact ⟨ret_int (by unfold errI; rw [if_neg]; intro hg; rw [inB_not] at g6; unfold Good at hg; omega), (Below.refl _ _).alloc (Nat.le_refl _) _⟩
      replace g6 : inB c.sw 1 16 = true := by simpa using g6
      have h5 := H5.five
      have a0 := (inB_iff _ _ _).1 g0
      have a1 := (inB_iff _ _ _).1 g1
      have a2 := (inB_iff _ _ _).1 g2
      have a3 := (inB_iff _ _ _).1 g3
      have a4 := (inB_iff _ _ _).1 g4
      have a5 := (inB_iff _ _ _).1 g5
      have a6 := (inB_iff _ _ _).1 g6
      have hn : clampI 0 c.c0 12 + clampI 0 c.c1 12 + clampI 0 c.c2 12 + clampI 0 c.c3 12 + clampI 0 c.c4 12 = c.c0 + c.c1 + c.c2 + c.c3 + c.c4 := by unfold clampI; omega
      have A : Hid (Good c ↔ 0 < c.c0 + c.c1 + c.c2 + c.c3 + c.c4) := by unfold Hid Good; omega
      by_cases hz : clampI 0 c.c0 12 + clampI 0 c.c1 12 + clampI 0 c.c2 12 + clampI 0 c.c3 12 + clampI 0 c.c4 12 = 0
      · have hzb : (clampI 0 c.c0 12 + clampI 0 c.c1 12 + clampI 0 c.c2 12 + clampI 0 c.c3 12 + clampI 0 c.c4 12 == 0) = true := by simpa using hz
        clear hn a0 a1 a2 a3 a4 a5 a6 h5
        go_wp2_with (first | (go_at_call 62; refine (in_is (by assumption) _).mono ?_; rintro r w1 ⟨rfl, rfl⟩) | (go_at_call 28; refine (nodes_any _ _ _ _ _ _).mono ?_; rintro r w1 ⟨rfl, hk1⟩))
        go_ret
        exact ⟨ret_int (by unfold errI; rw [if_neg]; intro hg; have := A.out.1 hg; have := H5.five; unfold clampI at hz; omega), ((Below.refl _ _).alloc (Nat.le_refl _) _).trans (hk1.mono (by simp))⟩
      · have hzb : (clampI 0 c.c0 12 + clampI 0 c.c1 12 + clampI 0 c.c2 12 + clampI 0 c.c3 12 + clampI 0 c.c4 12 == 0) = false := by simpa using hz
        clear hn a0 a1 a2 a3 a4 a5 a6 h5
        go_wp2_with (first | (go_at_call 62; refine (in_is (by assumption) _).mono ?_; rintro r w1 ⟨rfl, rfl⟩) | (go_at_call 28; refine (nodes_any _ _ _ _ _ _).mono ?_; rintro r w1 ⟨rfl, hk1⟩))
        go_ret
        exact ⟨ret_int (by unfold errI; rw [if_pos]; refine A.out.2 ?_; have := H5.five; unfold clampI at hz; omega), ((Below.refl _ _).alloc (Nat.le_refl _) _).trans (hk1.mono (by simp))⟩

end Go.Proofs.YtfbcadknimfhjaaGreat

namespace Go.Proofs.YtfbcadknimfhjaaGreat
open Go.RowKit

def sumI (l : List Int) : Int := l.foldr (· + ·) 0

theorem sumI_append (a b : List Int) : sumI (a ++ b) = sumI a + sumI b := by
  induction a with
  | nil => simp [sumI]
  | cons x l ih => simp only [sumI, List.cons_append, List.foldr_cons] at *; omega

theorem sumI_take_succ (l : List Int) (k : Nat) (h : k < l.length) : sumI (l.take (k + 1)) = sumI (l.take k) + l[k]?.getD 0 := by
  rw [List.take_add_one, sumI_append, List.getElem?_eq_getElem h]; simp [sumI]

theorem sumI_bound (l : List Int) (A B : Int) (h : ∀ x ∈ l, A ≤ x ∧ x ≤ B) : A * l.length ≤ sumI l ∧ sumI l ≤ B * l.length := by
  induction l with
  | nil => simp [sumI]
  | cons x l ih =>
    have := ih (fun y hy => h y (by simp [hy]))
    have := h x (by simp)
    simp only [sumI, List.foldr_cons, List.length_cons] at *
    push_cast
    rw [Int.mul_add, Int.mul_add]; omega

/-- The class of each node, the first one first. -/
def clsL (c : Cfg) : List Int := List.replicate c.c0.toNat 0 ++ (List.replicate c.c1.toNat 1 ++ (List.replicate c.c2.toNat 2 ++ (List.replicate c.c3.toNat 3 ++ List.replicate c.c4.toNat 4)))

/-- How many slots each node has. -/
def rooms (c : Cfg) : List Int := (clsL c).map slotsI

/-- How many nodes. -/
def nN (c : Cfg) : Nat := (rooms c).length

theorem nN_cls (c : Cfg) : (clsL c).length = nN c := by simp [nN, rooms]

theorem nN_eq {c : Cfg} (h : Good c) : (nN c : Int) = c.c0 + c.c1 + c.c2 + c.c3 + c.c4 := by
  obtain ⟨h0, h1, h2, h3, h4, _⟩ := h
  simp [nN, rooms, clsL]; omega

theorem nN_bound {c : Cfg} (h : Good c) : 1 ≤ nN c ∧ nN c ≤ 60 := by
  have := nN_eq h
  obtain ⟨h0, h1, h2, h3, h4, _, _, _, _, _, _, _, hp⟩ := h
  omega

theorem nodesI_eq {c : Cfg} (h : Good c) : nodesI c = nN c := by
  rw [nN_eq h]
  obtain ⟨h0, h1, h2, h3, h4, _⟩ := h
  unfold nodesI clampI; omega

theorem clsL_mem (c : Cfg) : ∀ x ∈ clsL c, 0 ≤ x ∧ x ≤ 4 := by
  intro x hx
  simp only [clsL, List.mem_append, List.mem_replicate] at hx
  omega

theorem slotsI_bound (k : Int) : 0 ≤ slotsI k ∧ slotsI k ≤ 16 := by
  unfold slotsI; repeat (first | omega | split)

theorem slotsI_pos {k : Int} (h0 : 0 ≤ k) (h1 : k ≤ 4) : 1 ≤ slotsI k := by
  unfold slotsI; repeat (first | omega | split)

theorem rooms_mem (c : Cfg) : ∀ x ∈ rooms c, 1 ≤ x ∧ x ≤ 16 := by
  intro x hx
  simp only [rooms, List.mem_map] at hx
  obtain ⟨k, hk, rfl⟩ := hx
  have := clsL_mem c k hk
  have := slotsI_bound k
  have := slotsI_pos (k := k) (by omega) (by omega)
  omega

theorem rooms_get {c : Cfg} {k : Nat} (h : k < nN c) : 1 ≤ (rooms c)[k]?.getD 0 ∧ (rooms c)[k]?.getD 0 ≤ 16 := by
  rw [List.getElem?_eq_getElem h]
  exact rooms_mem c _ (List.getElem_mem _)

/-- How many packets. -/
def manyI (c : Cfg) : Int := nN c + 2 * c.mks + c.mus + sumI ((rooms c).map fun r => (r + c.ch - 1) / c.ch)
def partsI (c : Cfg) : Int := ((nN c : Int) + c.sw - 1) / c.sw
def headI (c : Cfg) : Int := 6 + c.mus
def dqsI (c : Cfg) : Int := headI c + 5
def pksI (c : Cfg) : Int := dqsI c + c.mks * (2 + c.dq)
def node0I (c : Cfg) : Int := pksI c + manyI c * 6
/-- Where the k-th node's words begin (from 0 on). -/
def atI (c : Cfg) (k : Nat) : Int := node0I c + sumI (((rooms c).map fun r => 4 + r).take k)
def allI (c : Cfg) : Int := atI c (nN c)
def atL (c : Cfg) : List Int := (List.range (nN c)).map (atI c)

theorem piece_bound {c : Cfg} (h : Good c) (k : Nat) : 0 ≤ sumI (((rooms c).map fun r => (r + c.ch - 1) / c.ch).take k) ∧ sumI (((rooms c).map fun r => (r + c.ch - 1) / c.ch).take k) ≤ 1920 := by
  have hn := nN_bound h
  obtain ⟨_, _, _, _, _, _, _, _, hch, _⟩ := h
  have := sumI_bound (((rooms c).map fun r => (r + c.ch - 1) / c.ch).take k) 0 32 (fun x hx => by
    have := List.mem_of_mem_take hx
    simp only [List.mem_map] at this
    obtain ⟨r, hr, rfl⟩ := this
    have := rooms_mem c r hr
    refine ⟨Int.ediv_nonneg (by omega) (by omega), ?_⟩
    have : (r + c.ch - 1) / c.ch < 33 := by
      rw [Int.ediv_lt_iff_lt_mul (by omega)]
      omega
    omega)
  have hl : (((rooms c).map fun r => (r + c.ch - 1) / c.ch).take k).length ≤ 60 := by
    have : (rooms c).length = nN c := rfl
    simp; omega
  omega

theorem manyI_bound {c : Cfg} (h : Good c) : 4 ≤ manyI c ∧ manyI c ≤ 2000 := by
  have hn := nN_bound h
  have hp := piece_bound h (nN c)
  rw [List.take_of_length_le (by simp [nN])] at hp
  obtain ⟨_, _, _, _, _, hm, hu, _⟩ := h
  unfold manyI
  omega

theorem at_bound (c : Cfg) (h : Good c) (k : Nat) : 0 ≤ sumI (((rooms c).map fun r => 4 + r).take k) ∧ sumI (((rooms c).map fun r => 4 + r).take k) ≤ 1200 := by
  have hn := nN_bound h
  have := sumI_bound (((rooms c).map fun r => 4 + r).take k) 0 20 (fun x hx => by
    have := List.mem_of_mem_take hx
    simp only [List.mem_map] at this
    obtain ⟨r, hr, rfl⟩ := this
    have := rooms_mem c r hr
    omega)
  have hl : (((rooms c).map fun r => 4 + r).take k).length ≤ 60 := by
    have : (rooms c).length = nN c := rfl
    simp; omega
  omega

theorem dqs_bound {c : Cfg} (h : Good c) : 12 ≤ dqsI c ∧ dqsI c ≤ 15 ∧ 16 ≤ pksI c ∧ pksI c ≤ 55 := by
  obtain ⟨_, _, _, _, _, hm, hu, hd, _⟩ := h
  have h1 : 1 * (2 + c.dq) ≤ c.mks * (2 + c.dq) := Int.mul_le_mul_of_nonneg_right (by omega) (by omega)
  have h2 : c.mks * (2 + c.dq) ≤ 4 * (2 + c.dq) := Int.mul_le_mul_of_nonneg_right (by omega) (by omega)
  unfold pksI dqsI headI
  omega

theorem node0_bound {c : Cfg} (h : Good c) : 40 ≤ node0I c ∧ node0I c ≤ 12055 := by
  have := dqs_bound h
  have := manyI_bound h
  unfold node0I; omega

theorem atI_bound {c : Cfg} (h : Good c) (k : Nat) : 40 ≤ atI c k ∧ atI c k ≤ 14000 := by
  have := node0_bound h
  have := at_bound c h k
  unfold atI; omega

theorem atI_succ {c : Cfg} {k : Nat} (h : k < nN c) : atI c (k + 1) = atI c k + (4 + (rooms c)[k]?.getD 0) := by
  unfold atI
  rw [sumI_take_succ _ _ (by simpa [nN] using h), List.getElem?_map, List.getElem?_eq_getElem h]
  simp; omega

/-- Places; -1: there is no such thing. -/
def pEnd (c : Cfg) (i j : Int) : Int := if 0 ≤ i ∧ i < c.mks then dqsI c + i * (2 + c.dq) + j else -1
def pEntry (c : Cfg) (i j : Int) : Int := if 0 ≤ j ∧ j < c.dq then pEnd c i (2 + j) else -1
def pAck (c : Cfg) (i : Int) : Int := if 0 ≤ i ∧ i < c.mus then 6 + i else -1
def pHead (c : Cfg) (k : Int) : Int := if 0 ≤ k ∧ k < 5 then headI c + k else -1
def pPack (c : Cfg) (p j : Int) : Int := if 1 ≤ p ∧ p ≤ manyI c then pksI c + (p - 1) * 6 + j else -1
def pTask (c : Cfg) (p j : Int) : Int := if 0 ≤ j ∧ j < 4 then pPack c p (2 + j) else -1
def room (c : Cfg) (v : Int) : Int := if 1 ≤ v ∧ v ≤ nN c then (rooms c)[(v - 1).toNat]?.getD 0 else 0
def pNode (c : Cfg) (v j : Int) : Int := if 1 ≤ v ∧ v ≤ nN c then atI c (v - 1).toNat + j else -1
def pSlot (c : Cfg) (v i : Int) : Int := if 0 ≤ i ∧ i < room c v then pNode c v (4 + i) else -1
def clsI (c : Cfg) (v : Int) : Int := if 1 ≤ v ∧ v ≤ nN c then (clsL c)[(v - 1).toNat]?.getD 0 else -1

theorem room_zero {c : Cfg} {v : Int} : room c v = 0 ↔ ¬ (1 ≤ v ∧ v ≤ nN c) := by
  unfold room
  split
  · next h =>
    have := (rooms_get (c := c) (k := (v - 1).toNat) (by omega)).1
    omega
  · next h => simp; omega

theorem room_bound (c : Cfg) (v : Int) : 0 ≤ room c v ∧ room c v ≤ 16 := by
  unfold room
  split
  · next h =>
    have := rooms_get (c := c) (k := (v - 1).toNat) (by omega)
    omega
  · omega

/-- A map of a configuration stands at a block, all of it below block B. -/
def MapAt (w : World) (B bm : Nat) (c : Cfg) : Prop := ∃ va vr, bm < B ∧
  Blk w bm 81 [.int .i64 6, .int .i64 (headI c), .int .i64 (dqsI c), .int .i64 (pksI c), .int .i64 (node0I c), .int .i64 (nN c), .int .i64 (manyI c), .int .i64 (partsI c), .int .i64 (allI c),
    .int .i64 c.c0, .int .i64 c.c1, .int .i64 c.c2, .int .i64 c.c3, .int .i64 c.c4, .int .i64 c.mks, .int .i64 c.mus, .int .i64 c.dq, .int .i64 c.ch, .int .i64 c.bu, .int .i64 c.ro, .int .i64 c.sw, va, vr] ∧ RowIn w B va ((atL c).map (Value.int .i64)) ∧ RowIn w B vr ((rooms c).map (Value.int .i64))

theorem MapAt.below {w w' : World} {B B' bm : Nat} {c : Cfg} (h : MapAt w B bm c) (k : Below B' w w') (hB : B ≤ B') : MapAt w' B bm c := by
  obtain ⟨va, vr, h0, h1, h2, h3⟩ := h
  refine ⟨va, vr, h0, ?_, h2.below k hB, h3.below k hB⟩
  unfold Blk; rw [k.block bm (by omega)]; exact h1

theorem MapAt.kept {w w' : World} {B bm : Nat} {c : Cfg} (h : MapAt w B bm c) (k : Kept w w') (hB : B ≤ w.heap.size) : MapAt w' B bm c := h.below k hB

theorem MapAt.drewN {w : World} {B bm : Nat} {c : Cfg} (h : MapAt w B bm c) (n : Nat) : MapAt (w.drewN n) B bm c := h.below (B' := B) ⟨rfl, rfl, rfl, Nat.le_refl _, fun _ _ => rfl⟩ (Nat.le_refl _)

end Go.Proofs.YtfbcadknimfhjaaGreat

namespace Go

@[go_sem high] theorem run_min_whole (P : Program) (w : World) (ts : Array TypeId) (t : TypeId) (k k' : IntKind) (x y : Int) : (Builtin.min_ ts t #[.int k x, .int k' y]).run P w = .ok (.int k (min x y)) w := by
  have : min x y = if y < x then y else x := by split <;> omega
  rw [this]; simp [Builtin.min_, Builtin.min2]

@[go_sem high] theorem run_max_whole (P : Program) (w : World) (ts : Array TypeId) (t : TypeId) (k k' : IntKind) (x y : Int) : (Builtin.max_ ts t #[.int k x, .int k' y]).run P w = .ok (.int k (max x y)) w := by
  have : max x y = if y > x then y else x := by split <;> omega
  rw [this]; simp [Builtin.max_, Builtin.max2]

end Go

namespace Go.Proofs.YtfbcadknimfhjaaGreat
open Go.RowKit

def hiI (w : Int) : Int := w / 4294967296
def loI (w : Int) : Int := w % 4294967296

theorem hiI_bound {w : Int} (h0 : 0 ≤ w) (h1 : w < 18446744073709551616) : 0 ≤ hiI w ∧ hiI w ≤ 4294967295 := by unfold hiI; omega
theorem loI_bound (w : Int) : 0 ≤ loI w ∧ loI w ≤ 4294967295 := by unfold loI; omega

theorem wraps_u64 (n : Int) (h0 : 0 ≤ n) (h1 : n < 2 ^ 64) : IntKind.u64.wrap n = n := by rw [IntKind.wrap_u64]; omega

theorem and_low (x : Int) (h0 : 0 ≤ x) (h1 : x < 18446744073709551616) : bits .and .u64 x 4294967295 = x % 4294967296 :=
  bits_mask .u64 64 (by decide) wraps_u64 32 (by decide) x h0 (by omega)

theorem and_seven (x : Int) (h0 : 0 ≤ x) (h1 : x < 18446744073709551616) : bits .and .u64 x 7 = x % 8 :=
  bits_mask .u64 64 (by decide) wraps_u64 3 (by decide) x h0 (by omega)

theorem or_low (a b : Int) (h0 : 0 ≤ a) (h1 : a < 4294967296) (h2 : 0 ≤ b) (h3 : b < 4294967296) : bits .or .u64 (a * 4294967296) b = a * 4294967296 + b :=
  bits_join .u64 64 (by decide) wraps_u64 32 (a * 4294967296) b (by omega) (by omega) (by omega) h2 (by omega) (by omega)

theorem part_32 (w : Int) (W : World) (h0 : 0 ≤ w) (h1 : w < 18446744073709551616) :
    Calls Tryz.prog 119 #[.int .u64 w, .int .i64 32] W fun e W' => e = .returned (.tuple #[.int .u64 (hiI w), .int .u64 (loI w)]) ∧ ∃ n, W' = W.drewN n := by
  have ha := and_low w h0 h1
  have HA : Hid _ := ha
  clear ha
  go_enter Tryz.func119, Tryz.ntmps119
  go_wp2_with fail
  go_quiet (fail)
  go_wp2_with fail
  go_ret2
  refine ⟨?_, nq, rfl⟩
  show Ending.returned (.tuple #[.int .u64 (w / 4294967296), .int .u64 (bits .and .u64 w 4294967295)]) = _
  rw [HA.out]; rfl

theorem pair_any (a b : Int) (W : World) (h0 : 0 ≤ a) (h1 : a < 4294967296) (h2 : 0 ≤ b) (h3 : b < 4294967296) :
    Calls Tryz.prog 34 #[.int .u32 a, .int .u32 b] W fun e W' => e = .returned (.int .u64 (a * 4294967296 + b)) ∧ W = W' := by
  have HA : Hid (bits .or .u64 (a * 4294967296) b = a * 4294967296 + b) := or_low a b h0 h1 h2 h3
  go_enter Tryz.func34, Tryz.ntmps34
  go_wp2_with fail
  go_ret
  exact ⟨ret_int HA.out, rfl⟩

theorem split_any (w : Int) (W : World) (h0 : 0 ≤ w) (h1 : w < 18446744073709551616) :
    Calls Tryz.prog 115 #[.int .u64 w] W fun e W' => e = .returned (.tuple #[.int .u32 (hiI w), .int .u32 (loI w)]) ∧ ∃ n, W' = W.drewN n := by
  have hh := hiI_bound h0 h1
  have hl := loI_bound w
  obtain ⟨hh0, hh1⟩ := hh
  obtain ⟨hl0, hl1⟩ := hl
  go_enter Tryz.func115, Tryz.ntmps115
  go_wp2_with fail
  refine (part_32 _ _ h0 h1).mono ?_; rintro e W' ⟨rfl, n, rfl⟩
  go_wp2_with fail
  go_ret2
  exact ⟨rfl, n, rfl⟩

/-- A head that is turned. -/
def turnI (w low : Int) : Int := (hiI w + 1) % 4294967296 * 4294967296 + low

theorem turn_any (w low : Int) (W : World) (h0 : 0 ≤ w) (h1 : w < 18446744073709551616) (h2 : 0 ≤ low) (h3 : low < 4294967296) :
    Calls Tryz.prog 123 #[.int .u64 w, .int .u32 low] W fun e W' => e = .returned (.int .u64 (turnI w low)) ∧ ∃ n, W' = W.drewN n := by
  go_enter Tryz.func123, Tryz.ntmps123
  go_wp2_with fail
  refine (split_any _ _ h0 h1).mono ?_; rintro e W' ⟨rfl, n, rfl⟩
  go_wp2_with fail
  refine (pair_any _ _ _ (by omega) (by omega) h2 h3).mono ?_; rintro e W' ⟨rfl, rfl⟩
  go_wp2_with fail
  go_ret
  exact ⟨rfl, n, rfl⟩

theorem turnI_bound {w low : Int} (h2 : 0 ≤ low) (h3 : low < 4294967296) : 0 ≤ turnI w low ∧ turnI w low < 18446744073709551616 := by
  unfold turnI; omega

/-- How far ahead, round the end. -/
def aheadI (a b : Int) : Int := (a - b + 9223372036854775808) % 18446744073709551616 - 9223372036854775808

theorem arr2_eq (d : Nat) (a b : Int) (w : World) :
    (Op.equalIn (d + 2) 150 (.agg #[.int .u64 a, .int .u64 0]) (.agg #[.int .u64 b, .int .u64 0])).run Tryz.prog w = .ok (a == b) w := by
  have h1 := run_underlying (w := w) Tryz.underlying150
  have h2 : (sizeOf 25).run Tryz.prog w = .ok 1 w := by kernel_rfl
  have h3 : ∀ x y : Int, (part 25 #[.int .u64 x, .int .u64 y] 0).run Tryz.prog w = .ok (.int .u64 x) w := fun x y => by kernel_rfl
  have h4 : ∀ x y : Int, (part 25 #[.int .u64 x, .int .u64 y] 1).run Tryz.prog w = .ok (.int .u64 y) w := fun x y => by kernel_rfl
  rw [Op.equalIn]
  simp only [Sem.run_bind, h1, Result.andThen_ok, h2]
  simp [List.range', h3, h4, run_equalIn_int (P := Tryz.prog) w d 25 .u64 .u64 _ _ Tryz.underlying25]
  by_cases h : a = b <;> simp [h]

theorem arr2_eql (a b : Int) (w : World) :
    (binOp .eql 150 (.agg #[.int .u64 a, .int .u64 0]) (.agg #[.int .u64 b, .int .u64 0])).run Tryz.prog w = .ok (.bool (a == b)) w := by
  rw [run_eql_struct, arr2_eq 9998 a b w]; rfl

theorem ahead_any (a b : Int) (W : World) (_h0 : 0 ≤ a) (_h1 : a < 18446744073709551616) (_h2 : 0 ≤ b) (_h3 : b < 18446744073709551616) :
    Calls Tryz.prog 102 #[.int .u64 a, .int .u64 b] W fun e W' => e = .returned (.int .i64 (aheadI a b)) ∧ W = W' := by
  have hm : Tryz.prog.eqGuardType Tryz.prog.depth 150 = false := by kernel_rfl
  have hq := fun W => arr2_eql a b W
  by_cases h : a = b
  · have hb : (a == b) = true := by simpa using h
    rw [show aheadI a b = 0 from by unfold aheadI; omega]
    clear h
    go_enter Tryz.func102, Tryz.ntmps102
    go_wp2_with fail
    go_ret
    exact ⟨rfl, rfl⟩
  · have hb : (a == b) = false := by simpa using h
    clear h
    go_enter Tryz.func102, Tryz.ntmps102
    go_wp2_with fail
    go_ret
    refine ⟨ret_int ?_, rfl⟩
    unfold aheadI
    rw [IntKind.wrap_u64]
    unfold wrap64
    omega

end Go.Proofs.YtfbcadknimfhjaaGreat
