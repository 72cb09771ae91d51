/- A packet's machine, running or finished at once: what each step does, and what it leaves. -/
import Derived.Test.YtfbcadknimfhjaaGreatPkH
import Derived.Test.YtfbcadknimfhjaaGreatPkW
namespace Go.Proofs.YtfbcadknimfhjaaGreat
open Go.RowKit

/-- What others hold apart from it. -/
def Apart (q bs bl : Nat) (Y : Nat → Prop) : Prop := q ≠ bs ∧ q ≠ bl ∧ ¬ Y q

/-- A packet's machine; what is in Y is no block of its own. -/
def PkAt (w : World) (b B bm bs bl : Nat) (Y : Nat → Prop) (s : PM) : Prop :=
  PmOk s ∧ B ≤ b ∧ b < w.heap.size ∧ Apart b bs bl Y ∧ ((s.pc = .done ∧ PkGot w b s.p) ∨ ∃ bi gt, PmAt w b bi gt bm bs bl s ∧ B ≤ bi ∧ gt < w.heap.size ∧ Apart bi bs bl Y ∧ Apart gt bs bl Y)

/-- What a step changes. -/
def PkB (B bs bl : Nat) (Y : Nat → Prop) : Nat → Prop := fun q => B ≤ q ∧ (q = bs ∨ q = bl ∨ ¬ Y q)

theorem PkAt.chg {w w' : World} {b B bm bs bl : Nat} {Y S : Nat → Prop} {s : PM} (h : PkAt w b B bm bs bl Y s) (k : Chg S w w') (hS : ∀ q, Apart q bs bl Y → ¬ S q) : PkAt w' b B bm bs bl Y s := by
  obtain ⟨h1, h2, h3, h4, h5⟩ := h
  refine ⟨h1, h2, Nat.lt_of_lt_of_le h3 k.size, h4, ?_⟩
  rcases h5 with ⟨e, h⟩ | ⟨bi, gt, h, a1, a3, a4, a5⟩
  · exact .inl ⟨e, h.chg k (hS _ h4)⟩
  · exact .inr ⟨bi, gt, h.chg k (hS _ h4) (hS _ a4) (hS _ a5), a1, Nat.lt_of_lt_of_le a3 k.size, a4, a5⟩

theorem PkAt.kept {w w' : World} {b B bm bs bl : Nat} {Y : Nat → Prop} {s : PM} (h : PkAt w b B bm bs bl Y s) (k : Kept w w') : PkAt w' b B bm bs bl Y s :=
  h.chg (Chg.ofBelow (S := fun _ => False) k) (fun _ _ => id)

/-- More is held apart: blocks that are new. -/
theorem PkAt.more {w w' : World} {b B bm bs bl : Nat} {Y Y' : Nat → Prop} {s : PM} (h : PkAt w b B bm bs bl Y s) (k : Kept w w') (hY : ∀ q, Y' q → Y q ∨ w.heap.size ≤ q) (hY' : ∀ q, Y' q → q < w'.heap.size) (hbs : bs < w.heap.size) (hbl : bl < w.heap.size) : PkAt w' b B bm bs bl Y' s := by
  obtain ⟨h1, h2, h3, h4, h5⟩ := h.kept k
  obtain ⟨_, _, g3, _, g5⟩ := h
  have z := k.size
  have ap : ∀ q, q < w.heap.size → Apart q bs bl Y → Apart q bs bl Y' := fun q hq ⟨e1, e2, e3⟩ => ⟨e1, e2, fun e => by
    rcases hY q e with e | e
    · exact e3 e
    · omega⟩
  refine ⟨h1, h2, h3, ap _ g3 h4, ?_⟩
  rcases g5 with ⟨e, h⟩ | ⟨bi, gt, h, a1, a3, a4, a5⟩
  · exact .inl ⟨e, h.kept k⟩
  · refine .inr ?_
    have hk := h.chg (Chg.ofBelow (S := fun _ => False) k) id id id
    obtain ⟨b2, hb2, e⟩ := h.home (bi := w'.heap.size) ⟨by omega, by omega, by omega, by omega⟩
    have hk2 := hb2.chg (Chg.ofBelow (S := fun _ => False) k) id id id
    refine ⟨b2, gt, hk2, ?_, by omega, ?_, ap _ a3 a5⟩
    · rcases e with rfl | ⟨rfl, _⟩
      · omega
      · exact a1
    · rcases e with rfl | ⟨rfl, e⟩
      · exact ⟨by omega, by omega, fun e => absurd (hY' _ e) (Nat.lt_irrefl _)⟩
      · exact ap _ e a4

theorem PkAt.step {w : World} {b B bm bs bl : Nat} {Y : Nat → Prop} {s : PM} {c : Cfg} {mem : List Int} {n : Int} (h : PkAt w b B bm bs bl Y s) (hg : Good c) (hs : StoreAt w bs bl mem n) (hm : MapAt w B bm c) (hBs : B ≤ bs) (hBl : B ≤ bl) (hY : ∀ q, Y q → q < w.heap.size) :
    Calls Tryz.prog 91 #[.pointer (some ⟨b, 0, none⟩), .pointer (some ⟨bs, 0, none⟩)] w fun e w' => e = .returned (.bool (pmStep c mem s).2.pc.fin) ∧
      PkAt w' b B bm bs bl Y (pmStep c mem s).2 ∧ StoreAt w' bs bl (pmStep c mem s).1 (cntIf s.pc.fin n) ∧ Chg (PkB B bs bl Y) w w' := by
  have hh := h
  obtain ⟨h1, h2, h3, h4, h5⟩ := h
  rcases h5 with ⟨e, h⟩ | ⟨bi, gt, h, a1, a3, a4, a5⟩
  · rw [pmStep_done e, e]
    refine (pstepNone w _ h).mono ?_
    rintro e w' ⟨rfl, rfl⟩
    exact ⟨rfl, hh, hs, Chg.refl _ _⟩
  · refine (pstep_all w hg h hs hm a3 h1).mono ?_
    rintro e w' ⟨rfl, ⟨bi', hp, hbi⟩, hs', hc⟩
    have hl := hs.lt
    have z := hc.size
    refine ⟨rfl, ⟨pmStep_ok h1, h2, Nat.lt_of_lt_of_le h3 z, h4, ?_⟩, hs', hc.mono (fun q _ e => ?_)⟩
    · by_cases hd : (pmStep c mem s).2.pc = .done
      · exact .inl ⟨hd, hp.got hd⟩
      · refine .inr ⟨bi', gt, hp, by omega, Nat.lt_of_lt_of_le a3 z, ?_, a5⟩
        rcases hbi with rfl | e
        · exact a4
        · exact ⟨by omega, by omega, fun y => by have := hY _ y; omega⟩
    · rcases e with rfl | rfl | rfl | rfl
      · exact ⟨h2, .inr (.inr h4.2.2)⟩
      · exact ⟨a1, .inr (.inr a4.2.2)⟩
      · exact ⟨hBs, .inl rfl⟩
      · exact ⟨hBl, .inr (.inl rfl)⟩

end Go.Proofs.YtfbcadknimfhjaaGreat
