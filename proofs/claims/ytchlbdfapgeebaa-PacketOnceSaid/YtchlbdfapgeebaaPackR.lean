/- A packet's machine that is run: what it does, as plain numbers; no program. -/
import Derived.Test.YtchlbdfapgeebaaPack4
namespace Go.Proofs.Ytchlbdfapgeebaa
open Go.RowKit

/-- What a machine that may be knows. -/
structure PmOk (s : PM) : Prop where
  spare : s.pc = .spare → s.j = 0 ∧ 0 < s.tasks.length
  fill : s.pc = .fill → s.j < s.tasks.length

theorem pmSpare_ok {c : Cfg} {mem : List Int} {s : PM} (h : PmOk s) (hp : s.pc = .spare) : PmOk (pmSpare c mem s).2 := by
  obtain ⟨h1, h2⟩ := h.spare hp
  unfold pmSpare
  split
  · split
    · exact ⟨fun _ => ⟨h1, h2⟩, fun e => by cases e⟩
    · exact ⟨fun e => (by cases e), fun _ => by show s.j < s.tasks.length; omega⟩
  · exact ⟨fun _ => ⟨h1, h2⟩, fun e => by rw [show s.pc = PPc.spare from hp] at e; cases e⟩

theorem pmStep_ok {c : Cfg} {mem : List Int} {s : PM} (h : PmOk s) : PmOk (pmStep c mem s).2 := by
  unfold pmStep
  split
  · exact h
  · next hp => exact pmSpare_ok h hp
  · next hp =>
    have := h.fill hp
    unfold pmFill
    refine ⟨fun e => ?_, fun e => ?_⟩
    · simp only at e; split at e <;> cases e
    · simp only at e ⊢
      split at e
      · cases e
      · omega
  · unfold pmMany
    exact ⟨fun e => (by cases e), fun e => by cases e⟩
  · next hp =>
    unfold pmLast
    split
    · exact ⟨fun e => (by cases e), fun e => by cases e⟩
    · exact ⟨fun e => (by rw [show s.pc = PPc.last from hp] at e; cases e), fun e => by rw [show s.pc = PPc.last from hp] at e; cases e⟩

/-- So many steps. -/
def pmRun (c : Cfg) : Nat → List Int × PM → List Int × PM
  | 0, x => x
  | k + 1, x => pmStep c (pmRun c k x).1 (pmRun c k x).2

theorem pmRun_ok {c : Cfg} {x : List Int × PM} (h : PmOk x.2) (k : Nat) : PmOk (pmRun c k x).2 := by
  induction k with
  | zero => exact h
  | succ k ih => exact pmStep_ok ih

theorem fin_iff {q : PPc} : q.fin = true ↔ q = .done := by cases q <;> simp [PPc.fin]

theorem pmStep_done {c : Cfg} {mem : List Int} {s : PM} (h : s.pc = .done) : pmStep c mem s = (mem, s) := by
  unfold pmStep; rw [h]

/-- A packet that was got; 0: none. -/
def PM.packet (s : PM) : Int := if s.pc.fin then s.p else 0

/-- The things of a stack. -/
def walkL (lf : Int → Int) (mem : List Int) : Nat → Int → List Int
  | 0, _ => []
  | k + 1, place => if 0 ≤ place ∧ place < mem.length ∧ loI (mget mem place) ≠ 0 then loI (mget mem place) :: walkL lf mem k (lf (loI (mget mem place))) else []

/-- A packet's tasks. -/
def tasksL (c : Cfg) (mem : List Int) (p : Int) : List Int := (List.range (min (mget mem (pPack c p 0)) 4).toNat).map fun (j : Nat) => mget mem (pTask c p j)

/-- The tasks of the pool. -/
def heldL (c : Cfg) (mem : List Int) : List Int := (walkL (lnk c) mem (manyI c).toNat 4).flatMap (tasksL c mem)

end Go.Proofs.Ytchlbdfapgeebaa
