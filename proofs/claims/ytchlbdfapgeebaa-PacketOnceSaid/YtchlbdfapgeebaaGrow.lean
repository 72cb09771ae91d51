/- Blocks that are owned. Nothing of one function. -/
import Derived.Test.YtchlbdfapgeebaaAw11
namespace Go.Proofs.Ytchlbdfapgeebaa
open Go.RowKit

/-- The blocks that are owned after a step: those owned ahead, and new ones. -/
def Grow (O : Nat → Prop) (w w' : World) : Nat → Prop := fun k => O k ∨ (w.heap.size ≤ k ∧ k < w'.heap.size)

/-- Owned blocks, and memory's. -/
abbrev OwnB (O : Nat → Prop) (bs bl : Nat) : Nat → Prop := fun k => O k ∨ k = bs ∨ k = bl

/-- New blocks. -/
def NewB (w w' : World) : Nat → Prop := fun k => w.heap.size ≤ k ∧ k < w'.heap.size

theorem Chg.grow {O : Nat → Prop} {bs bl : Nat} {w w1 w2 : World} (h : Chg (OwnB O bs bl) w w1) (k : Chg (OwnB (Grow O w w1) bs bl) w1 w2) : Chg (OwnB O bs bl) w w2 :=
  h.thenNew k (fun i hi e => by
    rcases e with (e | e) | e
    · exact .inl e
    · omega
    · exact .inr e)

theorem Grow.trans {O : Nat → Prop} {w w1 w2 : World} (h : w.heap.size ≤ w1.heap.size) (h2 : w1.heap.size ≤ w2.heap.size) (k : Nat) : Grow (Grow O w w1) w1 w2 k ↔ Grow O w w2 k := by
  constructor
  · rintro ((e | e) | e)
    · exact .inl e
    · exact .inr ⟨e.1, by omega⟩
    · exact .inr ⟨by omega, e.2⟩
  · rintro (e | e)
    · exact .inl (.inl e)
    · by_cases hk : k < w1.heap.size
      · exact .inl (.inr ⟨e.1, hk⟩)
      · exact .inr ⟨by omega, e.2⟩

theorem Grow.eq {O : Nat → Prop} {w w1 w2 : World} (h : w.heap.size ≤ w1.heap.size) (h2 : w1.heap.size ≤ w2.heap.size) : Grow (Grow O w w1) w1 w2 = Grow O w w2 :=
  funext fun k => propext (Grow.trans h h2 k)

theorem Grow.self (O : Nat → Prop) (w : World) : Grow O w w = O := by
  funext k; apply propext; unfold Grow
  constructor
  · rintro (e | e)
    · exact e
    · omega
  · exact .inl

theorem grow_ok {O : Nat → Prop} {w w' : World} {bs bl : Nat} (h : ∀ k, O k → k < w.heap.size ∧ k ≠ bs ∧ k ≠ bl) (hz : w.heap.size ≤ w'.heap.size) (hs : bs < w.heap.size) (hl : bl < w.heap.size) : ∀ k, Grow O w w' k → k < w'.heap.size ∧ k ≠ bs ∧ k ≠ bl := by
  rintro k (e | ⟨e1, e2⟩)
  · exact ⟨Nat.lt_of_lt_of_le (h k e).1 hz, (h k e).2⟩
  · exact ⟨e2, by omega, by omega⟩

theorem PmAt.home {w : World} {b bi bi' gt bm bs bl : Nat} {s : PM} (h : PmAt w b bi' gt bm bs bl s) (h1 : b ≠ bi ∧ bi ≠ bs ∧ bi ≠ bl ∧ gt ≠ bi) : ∃ b2, PmAt w b b2 gt bm bs bl s ∧ (b2 = bi ∨ (b2 = bi' ∧ bi' < w.heap.size)) := by
  by_cases hin : s.pc.inner
  · refine ⟨bi', h, .inr ⟨rfl, ?_⟩⟩
    obtain ⟨_, _, _, _, hi⟩ := h.ex
    obtain ⟨_, ⟨_, _, hq⟩, _⟩ := hi hin
    exact hq.lt
  · obtain ⟨⟨a1, a2, a3, a4, a5, a6, a7, a8, a9⟩, hall, hlen, hrng, tv, iv, hb, ht, hi⟩ := h
    exact ⟨bi, ⟨⟨h1.1, a2, a3, h1.2.1, h1.2.2.1, a6, h1.2.2.2, a8, a9⟩, hall, hlen, hrng, tv, iv, hb, ht, fun e => absurd e hin⟩, .inl rfl⟩

theorem Chg.ownBelow {O : Nat → Prop} {bs bl B : Nat} {w w' : World} (h : Chg (OwnB O bs bl) w w') (hB : B ≤ w.heap.size) (hO : ∀ k, O k → B ≤ k) (hs : B ≤ bs) (hl : B ≤ bl) : Below B w w' :=
  h.toBelow hB (fun q hq e => by rcases e with e | e | e; have := hO q e; omega; omega; omega)

theorem NewB.ge {w w' : World} {B : Nat} (h : B ≤ w.heap.size) : ∀ k, NewB w w' k → B ≤ k := fun _ hk => Nat.le_trans h hk.1

theorem below_blk {B : Nat} {w w' : World} (h : Below B w w') {b t l} (hb : Blk w b t l) (hl : b < B) : Blk w' b t l := by
  unfold Blk; rw [h.block b hl]; exact hb

theorem below_drewN {B : Nat} {w w' : World} (h : Below B w w') (k : Nat) : Below B w (w'.drewN k) := ⟨h.os, h.tape, h.output, h.size, h.block⟩

theorem wrap_small {x : Int} (h0 : 0 ≤ x) (h1 : x ≤ 100000) : IntKind.i64.wrap x = x := IntWalk.i64_in _ (by omega)

end Go.Proofs.Ytchlbdfapgeebaa
