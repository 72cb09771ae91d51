/- Worlds and blocks: what changed between two worlds; a block's cells. Nothing of the program. -/
import Derived.WalkKit
import Derived.WalkSpells
import Derived.WalkLawsBesides
namespace Go.Proofs.Ytchlbdfapgeebaa
open Go Go.RowKit

/-- A call through a function value in a slot. -/
def callSlot (v : Value) (xs : Array Value) : Sem Next := do
  let d ← Deferred.ofValue v xs
  invoke d.target d.args

@[go_sem ↓] theorem execOp_call_slot (a : Act) (dst : Option Tmp) (t : Tmp) (xs : Array Operand) (ats : Array TypeId) (ty : TypeId) (pos : String) (after : Array Edge) (guard : Option (Nat × Bool)) :
    execOp a.eval { dst, op := .call { callee := .value (.tmp t), args := xs, argTypes := ats }, type := ty, pos, after, guard } = callSlot (a.eval (.tmp t)) (xs.map a.eval) := rfl

@[go_sem] theorem callSlot_func (f : FuncId) (first captured xs : Array Value) : callSlot (.func (.func f) first captured) xs = callFunc f (first ++ xs ++ captured) := rfl

/-- A row of cells, none frozen. -/
abbrev Blk (w : World) (b : Nat) (t : TypeId) (l : List Value) : Prop := w.heap[b]? = some (.cells l.toArray t (0, 0))

theorem Blk.lt {w : World} {b t l} (h : Blk w b t l) : b < w.heap.size := lt_of_block h

theorem Blk.cell {w : World} {b t l} (h : Blk w b t l) (i : Nat) : w.cell? ⟨b, i, none⟩ = l[i]? := by
  rw [cell_of_row w b i _ t _ h]; simp

theorem Blk.free {w : World} {b t l} (h : Blk w b t l) (i : Nat) : w.frozen? ⟨b, i, none⟩ = false := frozen_of_row w b i _ t h

theorem Blk.set {w : World} {b t l} (h : Blk w b t l) (i : Nat) (v : Value) : Blk (w.setCell ⟨b, i, none⟩ v) b t (l.set i v) := by
  have := heap_setCell_same w b i _ t v h
  unfold Blk
  rw [this]; simp

/-- A cell written into an object. -/
def putObj (o : Obj) (i : Nat) (v : Value) : Obj := match o with
  | .cells c e fr => .cells (c.setIfInBounds i v) e fr
  | o => o

@[simp] theorem putObj_cells (c : Array Value) (e : TypeId) (fr : Nat × Nat) (i : Nat) (v : Value) : putObj (.cells c e fr) i v = .cells (c.setIfInBounds i v) e fr := rfl

theorem heap_set_get (w : World) (b i : Nat) (v : Value) (k : Nat) : (w.setCell ⟨b, i, none⟩ v).heap[k]? = if k = b then (w.heap[k]?).map (fun o => putObj o i v) else w.heap[k]? := by
  simp only [World.setCell, Array.getElem?_modify]
  by_cases h : k = b
  · subst h
    simp only [if_true]
    cases w.heap[k]? with
    | none => rfl
    | some o => cases o <;> rfl
  · rw [if_neg h, if_neg (by omega)]

theorem heap_alloc_get (w : World) (o : Obj) (k : Nat) : (w.alloc o).heap[k]? = if k = w.heap.size then some o else w.heap[k]? := by
  show (w.heap.push o)[k]? = _
  rw [Array.getElem?_push]

theorem heap_drew_get (w : World) (k : Nat) : w.drew.heap[k]? = w.heap[k]? := rfl

theorem Blk.to {w : World} {b t l l'} (h : Blk w b t l) (e : l = l') : Blk w b t l' := e ▸ h

theorem Blk.set' {w : World} {b t l l'} (h : Blk w b t l) (i : Nat) (v : Value) (e : l.set i v = l') : Blk (w.setCell ⟨b, i, none⟩ v) b t l' := e ▸ h.set i v

theorem Blk.setOther {w : World} {b t l} (h : Blk w b t l) (a : Addr) (v : Value) (hn : b ≠ a.block) : Blk (w.setCell a v) b t l := by
  unfold Blk; rw [heap_setCell_other _ _ _ _ hn]; exact h

theorem Blk.alloc {w : World} {b t l} (h : Blk w b t l) (o : Obj) : Blk (w.alloc o) b t l := by
  unfold Blk; rw [Below.heap_alloc _ _ _ h.lt]; exact h

theorem Blk.new (w : World) (t : TypeId) (l : List Value) : Blk (w.alloc (.cells l.toArray t)) w.heap.size t l := heap_alloc_new w _

theorem Blk.drew {w : World} {b t l} (h : Blk w b t l) : Blk w.drew b t l := h

/-- What may have changed: the blocks of S; new blocks. -/
structure Chg (S : Nat → Prop) (w w' : World) : Prop where
  os : w'.os = w.os
  tape : w'.tape = w.tape
  output : w'.output = w.output
  size : w.heap.size ≤ w'.heap.size
  block : ∀ k, k < w.heap.size → ¬ S k → w'.heap[k]? = w.heap[k]?

theorem Chg.refl (S : Nat → Prop) (w : World) : Chg S w w := ⟨rfl, rfl, rfl, Nat.le_refl _, fun _ _ _ => rfl⟩

theorem Chg.trans {S : Nat → Prop} {a b c : World} (h : Chg S a b) (k : Chg S b c) : Chg S a c :=
  ⟨k.os.trans h.os, k.tape.trans h.tape, k.output.trans h.output, Nat.le_trans h.size k.size,
   fun i hi hs => (k.block i (Nat.lt_of_lt_of_le hi h.size) hs).trans (h.block i hi hs)⟩

theorem Chg.mono {S T : Nat → Prop} {w w' : World} (h : Chg S w w') (hs : ∀ k, k < w.heap.size → S k → T k) : Chg T w w' :=
  ⟨h.os, h.tape, h.output, h.size, fun k hk hn => h.block k hk (fun x => hn (hs k hk x))⟩

/-- A step whose blocks are S, or new since a. -/
theorem Chg.thenNew {S T : Nat → Prop} {a b c : World} (h : Chg S a b) (k : Chg T b c) (hs : ∀ i, i < a.heap.size → T i → S i) : Chg S a c :=
  ⟨k.os.trans h.os, k.tape.trans h.tape, k.output.trans h.output, Nat.le_trans h.size k.size,
   fun i hi hn => (k.block i (Nat.lt_of_lt_of_le hi h.size) (fun x => hn (hs i hi x))).trans (h.block i hi hn)⟩

theorem Chg.drew {S : Nat → Prop} {a w : World} (h : Chg S a w) : Chg S a w.drew := ⟨h.os, h.tape, h.output, h.size, h.block⟩

theorem Chg.alloc {S : Nat → Prop} {a w : World} (h : Chg S a w) (o : Obj) : Chg S a (w.alloc o) :=
  h.trans ⟨rfl, rfl, rfl, by simp, fun k hk _ => Below.heap_alloc _ _ _ hk⟩

theorem Chg.setCell {S : Nat → Prop} {a w : World} (h : Chg S a w) (p : Addr) (u : Value) (hp : p.block < a.heap.size → S p.block) : Chg S a (w.setCell p u) :=
  h.thenNew (T := fun k => k = p.block) ⟨rfl, rfl, rfl, by simp, fun k _ hn => heap_setCell_other _ _ _ _ hn⟩ (fun i hi e => by subst e; exact hp hi)

theorem Chg.grown {S : Nat → Prop} {a w w' : World} {row : Option Nat} (h : Chg S a w) (hg : w.grownBy w' row) (hr : ∀ k, row = some k → k < a.heap.size → S k) : Chg S a w' :=
  h.thenNew (T := fun k => row = some k) ⟨hg.os, hg.tape, hg.output, hg.size, fun k hk hn => hg.block k hk (fun e => hn e.symm)⟩ (fun i hi e => hr i e hi)

theorem Chg.blk {S : Nat → Prop} {w w' : World} (h : Chg S w w') {b t l} (hb : Blk w b t l) (hn : ¬ S b) : Blk w' b t l := by
  unfold Blk; rw [h.block b hb.lt hn]; exact hb

theorem Chg.toBelow {S : Nat → Prop} {w w' : World} (h : Chg S w w') {B : Nat} (hB : B ≤ w.heap.size) (hs : ∀ k, k < B → ¬ S k) : Below B w w' :=
  ⟨h.os, h.tape, h.output, h.size, fun k hk => h.block k (by omega) (hs k hk)⟩

theorem Chg.ofBelow {S : Nat → Prop} {w w' : World} (h : Below w.heap.size w w') : Chg S w w' := ⟨h.os, h.tape, h.output, h.size, fun k hk _ => h.block k hk⟩

/-- Nothing old has changed. -/
abbrev Kept (w w' : World) : Prop := Below w.heap.size w w'

theorem Kept.trans' {a b c : World} (h : Kept a b) (k : Kept b c) : Kept a c := Below.trans h (k.mono h.size)

theorem Kept.blk {w w' : World} (h : Kept w w') {b t l} (hb : Blk w b t l) : Blk w' b t l := by
  unfold Blk; rw [h.block b hb.lt]; exact hb

theorem ownsRow_base {w : World} {base : Nat} {e : TypeId} {size : Nat} {v : Value} {n : Nat} {xs : List Value} (h : w.ownsRow base e size v n xs) : ∀ g, v.ownBlock = some g → base ≤ g ∧ g < w.heap.size := by
  intro g hg
  rcases h.2 with ⟨rfl, _⟩ | ⟨g', cap, cur, rfl, hb, hh, _⟩
  · simp [Value.ownBlock] at hg
  · simp [Value.ownBlock] at hg; subst hg; exact ⟨hb, lt_of_block hh⟩

theorem ownsRow_mono {w : World} {base base' : Nat} {e : TypeId} {size : Nat} {v : Value} {n : Nat} {xs : List Value} (h : w.ownsRow base e size v n xs) (hb : base' ≤ base) : w.ownsRow base' e size v n xs := by
  refine ⟨h.1, ?_⟩
  rcases h.2 with h0 | ⟨g, cap, cur, hv, hg, hr⟩
  · exact .inl h0
  · exact .inr ⟨g, cap, cur, hv, by omega, hr⟩

/-- A slice of one-cell elements that is read. -/
structure Row (w : World) (v : Value) (xs : List Value) : Prop where
  ex : ∃ ao cap, v = .slice ao xs.length cap ∧ xs.length ≤ maxLen ∧ (∀ i u, xs[i]? = some u → ∃ g, ao = some ⟨g, 0, none⟩ ∧ g < w.heap.size ∧ w.cell? ⟨g, i, none⟩ = some u)

theorem Row.ofOwn {w : World} {base e v n xs} (h : w.ownsRow base e 1 v n xs) : Row w v xs := by
  have hl : xs.length = n := by simpa using h.1
  subst hl
  rcases h.2 with ⟨rfl, h0⟩ | ⟨g, cap, cur, rfl, hb, hh, h1, h2, h3, h4⟩
  · exact ⟨none, 0, by rw [h0], by omega, fun i u hi => by
      have : i < xs.length := by rcases Nat.lt_or_ge i xs.length with h' | h'
                                 · exact h'
                                 · rw [List.getElem?_eq_none h'] at hi; cases hi
      omega⟩
  · refine ⟨some ⟨g, 0, none⟩, cap, rfl, by omega, fun i u hi => ⟨g, rfl, lt_of_block hh, ?_⟩⟩
    rw [cell_of_row w g i _ _ _ hh]
    simp only [Nat.mul_one] at h4
    rw [← h4, List.getElem?_take] at hi
    split at hi
    · rw [← Array.getElem?_toList]; exact hi
    · cases hi

theorem Row.kept {w w' : World} {v xs} (h : Row w v xs) (k : Kept w w') : Row w' v xs := by
  obtain ⟨ao, cap, hv, hm, hc⟩ := h.ex
  refine ⟨ao, cap, hv, hm, fun i u hi => ?_⟩
  obtain ⟨g, hg, hl, hcell⟩ := hc i u hi
  exact ⟨g, hg, Nat.lt_of_lt_of_le hl k.size, by rw [Below.cell k hl]; exact hcell⟩

/-- A slice of one-cell elements that is read, below a block number. -/
structure RowIn (w : World) (B : Nat) (v : Value) (xs : List Value) : Prop where
  ex : ∃ ao cap, v = .slice ao xs.length cap ∧ xs.length ≤ maxLen ∧ (∀ i u, xs[i]? = some u → ∃ g, ao = some ⟨g, 0, none⟩ ∧ g < B ∧ w.cell? ⟨g, i, none⟩ = some u)

theorem Row.into {w : World} {v xs} (h : Row w v xs) : RowIn w w.heap.size v xs := ⟨h.ex⟩

theorem RowIn.below {w w' : World} {B B' : Nat} {v xs} (h : RowIn w B v xs) (k : Below B' w w') (hB : B ≤ B') : RowIn w' B v xs := by
  obtain ⟨ao, cap, hv, hm, hc⟩ := h.ex
  refine ⟨ao, cap, hv, hm, fun i u hi => ?_⟩
  obtain ⟨g, hg, hl, hcell⟩ := hc i u hi
  exact ⟨g, hg, hl, by rw [Below.cell k (by exact Nat.lt_of_lt_of_le hl hB)]; exact hcell⟩

theorem RowIn.mono {w : World} {B B' : Nat} {v xs} (h : RowIn w B v xs) (hB : B ≤ B') : RowIn w B' v xs := by
  obtain ⟨ao, cap, hv, hm, hc⟩ := h.ex
  refine ⟨ao, cap, hv, hm, fun i u hi => ?_⟩
  obtain ⟨g, hg, hl, hcell⟩ := hc i u hi
  exact ⟨g, hg, by omega, hcell⟩

theorem ret_int {k : IntKind} {a b : Int} (h : a = b) : Ending.returned (.int k a) = .returned (.int k b) := by rw [h]
theorem ret_bool {a b : Bool} (h : a = b) : Ending.returned (.bool a) = .returned (.bool b) := by rw [h]

end Go.Proofs.Ytchlbdfapgeebaa
