/- A packet's machine is run: any step; so many steps: walked. -/
import Derived.Test.YtfbcadknimfhjaaPkPackD
import Derived.Test.YtfbcadknimfhjaaPkE
namespace Go.Proofs.Ytfbcadknimfhjaa
open Go.RowKit

/-- One access more, or none. -/
def cntIf (done : Bool) (n : Int) : Int := if done then n else cnt n

theorem pstep_all {b bi gt bm bs bl B : Nat} {c : Cfg} {s : PM} {mem : List Int} {n : Int} (w : World) (hg : Good c) (h : PmAt w b bi gt bm bs bl s) (hs : StoreAt w bs bl mem n) (hm : MapAt w B bm c) (hlt : gt < w.heap.size) (hok : PmOk s) :
    Calls Try.prog 65 #[.pointer (some ⟨b, 0, none⟩), .pointer (some ⟨bs, 0, none⟩)] w fun e w' => e = .returned (.bool (pmStep c mem s).2.pc.fin) ∧
      (∃ bi', PmAt w' b bi' gt bm bs bl (pmStep c mem s).2 ∧ (bi' = bi ∨ w.heap.size ≤ bi')) ∧ StoreAt w' bs bl (pmStep c mem s).1 (cntIf s.pc.fin n) ∧ Chg (PmB b bi bs bl) w w' := by
  cases hf : s.pc.fin
  · exact pstep_any w hg h hs hm hlt hok.fill hf
  · have hd := fin_iff.1 hf
    rw [pmStep_done hd]
    refine (pstepDone w _ h hd).mono ?_
    rintro e w2 ⟨rfl, rfl⟩
    exact ⟨ret_bool hf.symm, ⟨bi, h, .inl rfl⟩, hs, Chg.refl _ _⟩

theorem Chg.stepNew {b bi bi' bs bl : Nat} {w w1 w2 : World} (h : Chg (PmB b bi bs bl) w w1) (k : Chg (PmB b bi' bs bl) w1 w2) (hb : bi' = bi ∨ w.heap.size ≤ bi') : Chg (PmB b bi bs bl) w w2 :=
  h.thenNew k (fun i hi e => by
    rcases e with e | e | e | e
    · exact .inl e
    · rcases hb with hb | hb
      · exact .inr (.inl (by omega))
      · omega
    · exact .inr (.inr (.inl e))
    · exact .inr (.inr (.inr e)))

/-- A machine has been run: it, and memory, are so. -/
def PmRan (w w' : World) (b bi gt bm bs bl : Nat) (x : List Int × PM) : Prop := ∃ bi' n', PmAt w' b bi' gt bm bs bl x.2 ∧ (bi' = bi ∨ w.heap.size ≤ bi') ∧ StoreAt w' bs bl x.1 n'

end Go.Proofs.Ytfbcadknimfhjaa
