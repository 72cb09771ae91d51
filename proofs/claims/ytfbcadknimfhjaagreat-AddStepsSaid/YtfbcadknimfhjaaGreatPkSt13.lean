/- Add beside the document's: what holds between two steps. No walk. -/
import Derived.Test.YtfbcadknimfhjaaGreatPkH
import Derived.Test.YtfbcadknimfhjaaGreatPkRef13
namespace Go.Proofs.YtfbcadknimfhjaaGreat
open Go.RowKit

theorem MapAt.up {w : World} {B B' bm : Nat} {c : Cfg} (h : MapAt w B bm c) (hB : B ≤ B') : MapAt w B' bm c := by
  obtain ⟨va, vr, h0, h1, h2, h3⟩ := h
  exact ⟨va, vr, by omega, h1, h2.mono hB, h3.mono hB⟩

/-- What the document's machine has apart: its own block, memory, and what its slices have. -/
def YB13 (c : Cfg) (yb : Nat) (l tv xv : Value) (r : AM) : Nat → Prop := fun q => q = yb ∨ l.ownBlock = some q ∨ YS c tv xv r q

structure St13 (c : Cfg) (i : Int) (w4 : World) (bm bs bl b yb : Nat) (w : World) (mem : List Int) (n : Int) (s : AM) (O : Nat → Prop) (l : Value) (me : List Int) (ys : List Value) (tv xv : Value) (r : AM) : Prop where
  k : Kept w4 w
  st : StoreAt w bs bl mem n
  bo : w4.heap.size ≤ bs ∧ w4.heap.size ≤ bl
  x : AmAt w b bm bs bl c i s O
  ob : ∀ q, O q → w4.heap.size ≤ q ∧ ¬ YB13 c yb l tv xv r q
  y : Blk w yb 59 ys
  rr : R13 w (.agg ys.toArray) c i tv xv r
  m : MemV w l me
  ap : ∀ q, YB13 c yb l tv xv r q → w4.heap.size ≤ q ∧ q ≠ bs ∧ q ≠ bl
  nl : l.ownBlock ≠ some yb
  nx : ¬ YS c tv xv r yb
  pos : 0 < me.length

section
variable {c : Cfg} {i : Int} {w4 : World} {bm bs bl b yb : Nat} {w : World} {mem : List Int} {n : Int} {s : AM} {O : Nat → Prop} {l : Value} {me : List Int} {ys : List Value} {tv xv : Value} {r : AM}

theorem YB13.lt (hy : yb < w.heap.size) (hm : MemV w l me) (hp : 0 < me.length) {v : Value} (hr : R13 w v c i tv xv r) : ∀ q, YB13 c yb l tv xv r q → q < w.heap.size := by
  rintro q (rfl | e | e)
  · exact hy
  · exact hm.blockLt (by simpa using hp) _ e
  · exact hr.ylt e

theorem St13.ylt (h : St13 c i w4 bm bs bl b yb w mem n s O l me ys tv xv r) : ∀ q, YB13 c yb l tv xv r q → q < w.heap.size := YB13.lt h.y.lt h.m h.pos h.rr

theorem St13.kept {w' : World} (h : St13 c i w4 bm bs bl b yb w mem n s O l me ys tv xv r) (k : Kept w w') : St13 c i w4 bm bs bl b yb w' mem n s O l me ys tv xv r :=
  ⟨h.k.trans' k, h.st.kept k, h.bo, h.x.chg (Chg.ofBelow (S := fun _ => False) k) (fun _ _ => id), h.ob, k.blk h.y, h.rr.kept k, Row.kept h.m k, h.ap, h.nl, h.nx, h.pos⟩

/-- The code's side has moved. -/
theorem St13.moved {w' : World} {mem' : List Int} {n' : Int} {s' : AM} (h : St13 c i w4 bm bs bl b yb w mem n s O l me ys tv xv r) (hx : AmAt w' b bm bs bl c i s' (Grow O w w')) (hs : StoreAt w' bs bl mem' n') (hc : Chg (OwnB O bs bl) w w') : St13 c i w4 bm bs bl b yb w' mem' n' s' (Grow O w w') l me ys tv xv r := by
  have hno : ∀ q, YB13 c yb l tv xv r q → ¬ OwnB O bs bl q := fun q hq e => by
    obtain ⟨_, a1, a2⟩ := h.ap q hq
    rcases e with e | e | e
    · exact (h.ob q e).2 hq
    · exact a1 e
    · exact a2 e
  have hbo := h.bo
  refine ⟨h.k.trans (hc.toBelow h.k.size (fun q hq e => ?_)), hs, h.bo, hx, fun q e => ?_, hc.blk h.y (hno _ (.inl rfl)), h.rr.chg hc (fun q e => hno _ (.inr (.inr e))), Row.chgR h.m hc (fun _ g e => hno _ (.inr (.inl e))), h.ap, h.nl, h.nx, h.pos⟩
  · rcases e with e | e | e
    · have := (h.ob q e).1; omega
    · omega
    · omega
  · rcases e with e | e
    · exact h.ob q e
    · have := h.k.size
      exact ⟨by have := e.1; omega, fun y => by have := h.ylt q y; have := e.1; omega⟩

/-- The memory was changed. -/
theorem St13.put {w' : World} {mem' : List Int} {n' : Int} (h : St13 c i w4 bm bs bl b yb w mem n s O l me ys tv xv r) (hs : StoreAt w' bs bl mem' n') (hc : Chg (MemB bs bl) w w') : St13 c i w4 bm bs bl b yb w' mem' n' s O l me ys tv xv r := by
  have hbo := h.bo
  have hno : ∀ q, YB13 c yb l tv xv r q → ¬ MemB bs bl q := fun q hq e => by
    obtain ⟨_, a1, a2⟩ := h.ap q hq
    rcases e with e | e
    · exact a1 e
    · exact a2 e
  exact ⟨h.k.trans (hc.toBelow h.k.size (fun q hq e => by rcases e with e | e <;> omega)), hs, h.bo, h.x.chg hc (fun q e e' => by
    obtain ⟨_, a1, a2⟩ := h.x.own q e
    rcases e' with e' | e'
    · exact a1 e'
    · exact a2 e'), h.ob, hc.blk h.y (hno _ (.inl rfl)), h.rr.chg hc (fun q e => hno _ (.inr (.inr e))), Row.chgR h.m hc (fun _ g e => hno _ (.inr (.inl e))), h.ap, h.nl, h.nx, h.pos⟩

/-- The document's side has moved. -/
theorem St13.refd {w1 w2 : World} {l' : Value} {me' : List Int} {ys' : List Value} {tv' xv' : Value} {r' : AM} (h : St13 c i w4 bm bs bl b yb w mem n s O l me ys tv xv r) (k : Kept w w1) (hm : MemV w1 l' me') (hr : R13 w1 (.agg ys'.toArray) c i tv' xv' r') (hl : ∀ g, l'.ownBlock = some g → l' = l ∨ w.heap.size ≤ g) (hx : ∀ q, YS c tv' xv' r' q → YS c tv xv r q ∨ w.heap.size ≤ q) (hp : 0 < me'.length)
    (hc : Chg (fun q => q = yb) w1 w2) (hy : Blk w2 yb 59 ys') : St13 c i w4 bm bs bl b yb w2 mem n s O l' me' ys' tv' xv' r' := by
  have z := k.size
  have z4 := h.k.size
  have hyl := h.y.lt
  obtain ⟨s1, s2⟩ := h.st.lt
  obtain ⟨y1, y2, y3⟩ := h.ap yb (.inl rfl)
  have hY : ∀ q, YB13 c yb l' tv' xv' r' q → YB13 c yb l tv xv r q ∨ w.heap.size ≤ q := by
    rintro q (e | e | e)
    · exact .inl (.inl e)
    · rcases hl q e with e' | e'
      · rw [e'] at e; exact .inl (.inr (.inl e))
      · exact .inr e'
    · rcases hx q e with e | e
      · exact .inl (.inr (.inr e))
      · exact .inr e
  have nl' : l'.ownBlock ≠ some yb := fun e => by
    rcases hl yb e with e' | e'
    · rw [e'] at e; exact h.nl e
    · omega
  have nx' : ¬ YS c tv' xv' r' yb := fun e => by
    rcases hx yb e with e | e
    · exact h.nx e
    · omega
  refine ⟨(h.k.trans' k).trans (hc.toBelow (by omega) (fun q hq e => by omega)), (h.st.kept k).chg hc (fun e => y2 e.symm) (fun e => y3 e.symm), h.bo, (h.x.chg (Chg.ofBelow (S := fun _ => False) k) (fun _ _ => id)).chg hc (fun q e e' => (h.ob q e).2 (.inl e')), fun q e => ⟨(h.ob q e).1, fun y => ?_⟩, hy, hr.chg hc (fun q e hq => nx' (by rw [← hq]; exact e)), Row.chgR hm hc (fun _ g e hq => nl' (by rw [← hq]; exact e)), fun q e => ?_, nl', nx', hp⟩
  · rcases hY q y with y | y
    · exact (h.ob q e).2 y
    · have := (h.x.own q e).1; omega
  · rcases hY q e with e | e
    · exact h.ap q e
    · exact ⟨by omega, by omega, by omega⟩

/-- The document's memory was changed. -/
theorem St13.putL {w1 : World} {l' : Value} {me' : List Int} (h : St13 c i w4 bm bs bl b yb w mem n s O l me ys tv xv r) (k : Kept w w1) (hm : MemV w1 l' me') (hl : ∀ g, l'.ownBlock = some g → l' = l ∨ w.heap.size ≤ g) (hp : 0 < me'.length) : St13 c i w4 bm bs bl b yb w1 mem n s O l' me' ys tv xv r :=
  h.refd k hm (h.rr.kept k) hl (fun _q e => .inl e) hp (Chg.refl _ _) (k.blk h.y)

/-- What begins. -/
theorem St13.init {wA wB : World} (hx : AmAt wA b bm bs bl c i s O) (hO : ∀ q, O q → w4.heap.size ≤ q ∧ l.ownBlock ≠ some q) (k : Kept w4 wA) (kB : Kept wA wB) (hs : StoreAt wA bs bl mem n) (hbo : w4.heap.size ≤ bs ∧ w4.heap.size ≤ bl) (hm : MemV wA l mem) (hp : 0 < mem.length) (hl : ∀ g, l.ownBlock = some g → w4.heap.size ≤ g ∧ g ≠ bs ∧ g ≠ bl)
    (hr : R13 wB (.agg ys.toArray) c i tv xv r) (hr0 : r.pc ≠ .pool) (hyb : wA.heap.size ≤ yb) (hy : Blk wB yb 59 ys) : St13 c i w4 bm bs bl b yb wB mem n s O l mem ys tv xv r := by
  have z := k.size
  obtain ⟨s1, s2⟩ := hs.lt
  have hY : ∀ q, YB13 c yb l tv xv r q → q = yb ∨ l.ownBlock = some q := by
    rintro q (e | e | e)
    · exact .inl e
    · exact .inr e
    · exact absurd e.1 hr0
  have hll : ∀ g, l.ownBlock = some g → g < wA.heap.size := fun g e => hm.blockLt (by simpa using hp) _ e
  refine ⟨k.trans' kB, hs.kept kB, hbo, hx.chg (Chg.ofBelow (S := fun _ => False) kB) (fun _ _ => id), fun q e => ⟨(hO q e).1, fun y => ?_⟩, hy, hr, Row.kept hm kB, fun q e => ?_, fun e => ?_, fun e => hr0 e.1, hp⟩
  · rcases hY q y with y | y
    · have := (hx.own q e).1; omega
    · exact (hO q e).2 y
  · rcases hY q e with e | e
    · exact ⟨by omega, by omega, by omega⟩
    · exact hl q e
  · have := hll _ e; omega

end

end Go.Proofs.YtfbcadknimfhjaaGreat
