/- Packets beside the document's: what holds between two steps; what begins. No walk. -/
import Derived.Test.YtcejleaedlflaaaPkBegp
import Derived.Test.YtcejleaedlflaaaPkRef11p
namespace Go.Proofs.Ytcejleaedlflaaa
open Go.RowKit

theorem MapAt.up {w : World} {B B' bm : Nat} {c : Cfg} (h : MapAt w B bm c) (hB : B ≤ B') : MapAt w B' bm c := by
  obtain ⟨va, vr, h0, h1, h2, h3⟩ := h
  exact ⟨va, vr, by omega, h1, h2.mono hB, h3.mono hB⟩

/-- What the document's machine has apart: its own block, memory, and the stack that it steps. -/
def YB (c : Cfg) (yb : Nat) (l xvl : Value) (s : PM) : Nat → Prop := fun q => q = yb ∨ l.ownBlock = some q ∨ ((s.pc = .spare ∨ s.pc = .last) ∧ 0 < (linksL c).length ∧ xvl.ownBlock = some q)

structure St (c : Cfg) (w4 : World) (bm bs bl b yb : Nat) (tv : Value) (w : World) (mem : List Int) (n : Int) (s : PM) (l : Value) (me : List Int) (ys : List Value) (xvl : Value) (r : PM) : Prop where
  k : Kept w4 w
  st : StoreAt w bs bl mem n
  bo : w4.heap.size ≤ bs ∧ w4.heap.size ≤ bl
  x : PkAt w b w4.heap.size bm bs bl (YB c yb l xvl r) s
  y : Blk w yb 60 ys
  rr : R11 w (.agg ys.toArray) (linksL c) tv xvl r
  m : MemV w l me
  ap : ∀ q, YB c yb l xvl r q → w4.heap.size ≤ q ∧ q ≠ bs ∧ q ≠ bl
  nl : l.ownBlock ≠ some yb
  nx : (r.pc = .spare ∨ r.pc = .last) → 0 < (linksL c).length → xvl.ownBlock ≠ some yb
  tb : ∀ g, tv.ownBlock = some g → g < w4.heap.size
  pos : 0 < me.length

section
variable {c : Cfg} {w4 : World} {bm bs bl b yb : Nat} {tv : Value} {w : World} {mem : List Int} {n : Int} {s : PM} {l : Value} {me : List Int} {ys : List Value} {xvl : Value} {r : PM}

theorem YB.lt (hy : yb < w.heap.size) (hm : MemV w l me) (hp : 0 < me.length) {v : Value} (hr : R11 w v (linksL c) tv xvl r) : ∀ q, YB c yb l xvl r q → q < w.heap.size := by
  rintro q (rfl | e | ⟨e1, e2, e3⟩)
  · exact hy
  · exact hm.blockLt (by simpa using hp) _ e
  · exact hr.xlt e1 e2 e3

theorem St.ylt (h : St c w4 bm bs bl b yb tv w mem n s l me ys xvl r) : ∀ q, YB c yb l xvl r q → q < w.heap.size := YB.lt h.y.lt h.m h.pos h.rr

theorem St.kept {w' : World} (h : St c w4 bm bs bl b yb tv w mem n s l me ys xvl r) (k : Kept w w') : St c w4 bm bs bl b yb tv w' mem n s l me ys xvl r :=
  ⟨h.k.trans' k, h.st.kept k, h.bo, h.x.kept k, k.blk h.y, h.rr.kept k, Row.kept h.m k, h.ap, h.nl, h.nx, h.tb, h.pos⟩

/-- The code's side has moved. -/
theorem St.moved {w' : World} {mem' : List Int} {n' : Int} {s' : PM} (h : St c w4 bm bs bl b yb tv w mem n s l me ys xvl r) (hx : PkAt w' b w4.heap.size bm bs bl (YB c yb l xvl r) s') (hs : StoreAt w' bs bl mem' n') (hc : Chg (PkB w4.heap.size bs bl (YB c yb l xvl r)) w w') : St c w4 bm bs bl b yb tv w' mem' n' s' l me ys xvl r := by
  have hno : ∀ q, YB c yb l xvl r q → ¬ PkB w4.heap.size bs bl (YB c yb l xvl r) q := fun q hq ⟨_, e⟩ => by
    obtain ⟨_, a1, a2⟩ := h.ap q hq
    rcases e with e | e | e
    · exact a1 e
    · exact a2 e
    · exact e hq
  refine ⟨h.k.trans (hc.toBelow h.k.size (fun q hq e => by have := e.1; omega)), hs, h.bo, hx, hc.blk h.y (hno _ (.inl rfl)), h.rr.chg hc (fun _ g e hq => by have := h.tb g e; have := hq.1; omega) (fun e1 e2 g e3 => hno _ (.inr (.inr ⟨e1, e2, e3⟩))), Row.chgR h.m hc (fun _ g e => hno _ (.inr (.inl e))), h.ap, h.nl, h.nx, h.tb, h.pos⟩

/-- The memory was changed. -/
theorem St.put {w' : World} {mem' : List Int} {n' : Int} (h : St c w4 bm bs bl b yb tv w mem n s l me ys xvl r) (hs : StoreAt w' bs bl mem' n') (hc : Chg (MemB bs bl) w w') : St c w4 bm bs bl b yb tv w' mem' n' s l me ys xvl r := by
  have hbo := h.bo
  refine h.moved (h.x.chg hc (fun q e e' => ?_)) hs (hc.mono (fun q _ e => ?_))
  · obtain ⟨e1, e2, _⟩ := e
    rcases e' with e' | e'
    · exact e1 e'
    · exact e2 e'
  · rcases e with e | e
    · exact ⟨by omega, .inl e⟩
    · exact ⟨by omega, .inr (.inl e)⟩

/-- The document's side has moved. -/
theorem St.refd {w1 w2 : World} {l' : Value} {me' : List Int} {ys' : List Value} {xvl' : Value} {r' : PM} (h : St c w4 bm bs bl b yb tv w mem n s l me ys xvl r) (k : Kept w w1) (hm : MemV w1 l' me') (hr : R11 w1 (.agg ys'.toArray) (linksL c) tv xvl' r') (hl : ∀ g, l'.ownBlock = some g → l' = l ∨ w.heap.size ≤ g) (hx : XKeep w.heap.size r r' xvl xvl') (hp : 0 < me'.length)
    (hc : Chg (fun q => q = yb) w1 w2) (hy : Blk w2 yb 60 ys') : St c w4 bm bs bl b yb tv w2 mem n s l' me' ys' xvl' r' := by
  have z := k.size
  have z4 := h.k.size
  have hyl := h.y.lt
  obtain ⟨s1, s2⟩ := h.st.lt
  obtain ⟨y1, y2, y3⟩ := h.ap yb (.inl rfl)
  have hY : ∀ q, YB c yb l' xvl' r' q → YB c yb l xvl r q ∨ w.heap.size ≤ q := by
    rintro q (e | e | ⟨e1, e2, e3⟩)
    · exact .inl (.inl e)
    · rcases hl q e with e' | e'
      · rw [e'] at e; exact .inl (.inr (.inl e))
      · exact .inr e'
    · rcases hx e1 q e3 with ⟨e4, e5⟩ | e4
      · rw [e5] at e3; exact .inl (.inr (.inr ⟨e4, e2, e3⟩))
      · exact .inr e4
  have hY' : ∀ q, YB c yb l' xvl' r' q → q < w1.heap.size := YB.lt (by omega) hm hp hr
  have nl' : l'.ownBlock ≠ some yb := fun e => by
    rcases hl yb e with e' | e'
    · rw [e'] at e; exact h.nl e
    · omega
  have nx' : (r'.pc = .spare ∨ r'.pc = .last) → 0 < (linksL c).length → xvl'.ownBlock ≠ some yb := fun e1 e2 e => by
    rcases hx e1 yb e with ⟨e3, e'⟩ | e'
    · rw [e'] at e; exact h.nx e3 e2 e
    · omega
  refine ⟨(h.k.trans' k).trans (hc.toBelow (by omega) (fun q hq e => by omega)), (h.st.kept k).chg hc (fun e => y2 e.symm) (fun e => y3 e.symm), h.bo, (h.x.more k hY hY' s1 s2).chg hc (fun q e e' => e.2.2 (.inl e')), hy, hr.chg hc (fun _ g e hq => by have := h.tb g e; omega) (fun e1 e2 g e3 hq => nx' e1 e2 (by rw [← hq]; exact e3)), Row.chgR hm hc (fun _ g e hq => nl' (by rw [← hq]; exact e)), fun q e => ?_, nl', nx', h.tb, hp⟩
  rcases hY q e with e | e
  · exact h.ap q e
  · exact ⟨by omega, by omega, by omega⟩

/-- The document's memory was changed. -/
theorem St.putL {w1 : World} {l' : Value} {me' : List Int} (h : St c w4 bm bs bl b yb tv w mem n s l me ys xvl r) (k : Kept w w1) (hm : MemV w1 l' me') (hl : ∀ g, l'.ownBlock = some g → l' = l ∨ w.heap.size ≤ g) (hp : 0 < me'.length) : St c w4 bm bs bl b yb tv w1 mem n s l' me' ys xvl r :=
  h.refd k hm (h.rr.kept k) hl (fun e _ _ => .inl ⟨e, rfl⟩) hp (Chg.refl _ _) (k.blk h.y)

/-- What begins. -/
theorem St.init {N : Nat} {wA wB wC : World} (hx : PkAt wA b w4.heap.size bm bs bl (fun q => w4.heap.size ≤ q ∧ q < N) s) (k : Kept w4 wA) (kB : Kept wA wB) (hs : StoreAt wA bs bl mem n) (hbo : w4.heap.size ≤ bs ∧ w4.heap.size ≤ bl) (hm : MemV wA l mem) (hp : 0 < mem.length) (hl : ∀ g, l.ownBlock = some g → w4.heap.size ≤ g ∧ g < N ∧ g ≠ bs ∧ g ≠ bl ∧ g ≠ yb)
    (hr : R11 wB (.agg ys.toArray) (linksL c) tv xvl r) (hxv : (r.pc = .spare ∨ r.pc = .last) → 0 < (linksL c).length → ∀ g, xvl.ownBlock = some g → wA.heap.size ≤ g ∧ g ≠ yb) (hyb : w4.heap.size ≤ yb ∧ yb ≠ bs ∧ yb ≠ bl ∧ yb < wB.heap.size ∧ (yb < N ∨ wA.heap.size ≤ yb)) (tb : ∀ g, tv.ownBlock = some g → g < w4.heap.size) (hc : Chg (fun q => q = yb) wB wC) (hy : Blk wC yb 60 ys) : St c w4 bm bs bl b yb tv wC mem n s l mem ys xvl r := by
  have z := k.size
  have zB := kB.size
  obtain ⟨s1, s2⟩ := hs.lt
  obtain ⟨y1, y2, y3, y4, y5⟩ := hyb
  have hY : ∀ q, YB c yb l xvl r q → (w4.heap.size ≤ q ∧ q < N) ∨ wA.heap.size ≤ q := by
    rintro q (e | e | ⟨e1, e2, e3⟩)
    · subst e
      rcases y5 with h | h
      · exact .inl ⟨y1, h⟩
      · exact .inr h
    · exact .inl ⟨(hl q e).1, (hl q e).2.1⟩
    · exact .inr (hxv e1 e2 q e3).1
  have hY' : ∀ q, YB c yb l xvl r q → q < wB.heap.size := YB.lt y4 (Row.kept hm kB) hp hr
  refine ⟨(k.trans' kB).trans (hc.toBelow (by omega) (fun q hq e => by omega)), (hs.kept kB).chg hc (fun e => y2 e.symm) (fun e => y3 e.symm), hbo, (hx.more kB hY hY' s1 s2).chg hc (fun q e e' => e.2.2 (.inl e')), hy, hr.chg hc (fun _ g e hq => by have := tb g e; omega) (fun e1 e2 g e3 hq => (hxv e1 e2 g e3).2 hq), Row.chgR (Row.kept hm kB) hc (fun _ g e hq => (hl g e).2.2.2.2 hq), fun q e => ?_, fun e => (hl _ e).2.2.2.2 rfl, fun e1 e2 e => (hxv e1 e2 _ e).2 rfl, tb, hp⟩
  rcases e with e | e | ⟨e1, e2, e3⟩
  · subst e; exact ⟨y1, y2, y3⟩
  · exact ⟨(hl q e).1, (hl q e).2.2.1, (hl q e).2.2.2.1⟩
  · have := (hxv e1 e2 q e3).1; exact ⟨by omega, by omega, by omega⟩

end

end Go.Proofs.Ytcejleaedlflaaa
