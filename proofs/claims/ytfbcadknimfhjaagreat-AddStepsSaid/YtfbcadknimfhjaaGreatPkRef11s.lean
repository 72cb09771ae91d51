/- The document's packets: any step; what begins: walked. -/
import Derived.Test.YtfbcadknimfhjaaGreatPkRef11d
import Derived.Test.YtfbcadknimfhjaaGreatPkS
import Derived.Test.YtfbcadknimfhjaaGreatPkT
namespace Go.Proofs.YtfbcadknimfhjaaGreat
open Go.RowKit

theorem step11_ref {c : Cfg} {mem : List Int} {s : PM} {a l v tv xvl : Value} (w : World) (hg : Good c) (ha : MapV w c a) (h : R11 w v (linksL c) tv xvl s) (hm : MemV w l mem) (hall : ∀ x ∈ mem, U x) (hlen : mem.length ≤ 20000) (hok : s.pc = .fill → s.j < s.tasks.length) :
    Calls Tryz.prog 48 #[a, l, v] w fun e w' => ∃ l' v' xvl', e = .returned (.tuple #[l', v']) ∧ MemV w' l' (pmStep c mem s).1 ∧ R11 w' v' (linksL c) tv xvl' (pmStep c mem s).2 ∧ Kept w w' ∧ (∀ g, l'.ownBlock = some g → l' = l ∨ w.heap.size ≤ g) ∧ XKeep w.heap.size s (pmStep c mem s).2 xvl xvl' := by
  cases hp : s.pc
  · exact st11_done w hg ha h hm hall hlen hp
  · cases hf : (smStep (lkL (linksL c)) mem s.x).2.pc.fin
    · exact st11_spare_busy w hg ha h hm hall hlen hp hf
    · by_cases hi : (smStep (lkL (linksL c)) mem s.x).2.item = 0
      · exact st11_spare_none w hg ha h hm hall hlen hp hf hi
      · exact st11_spare_got w hg ha h hm hall hlen hp hf hi
  · by_cases hj : s.j + 1 = s.tasks.length
    · exact st11_fill1 w hg ha h hm hall hlen hp (hok hp) hj
    · exact st11_fill0 w hg ha h hm hall hlen hp (hok hp) hj
  · exact st11_many w hg ha h hm hall hlen hp
  · cases hf : (smStep (lkL (linksL c)) mem s.x).2.pc.fin
    · exact st11_last_busy w hg ha h hm hall hlen hp hf
    · exact st11_last_end w hg ha h hm hall hlen hp hf

theorem R11.done0 {w : World} (kind : Int) (Ls : List Int) (x : SM) : R11 w (.agg (r11L kind 0 (.slice none 0 0) 0 0 0 0 0 (.slice none 0 0) 0 0 0 0).toArray) Ls (.slice none 0 0) (.slice none 0 0) ⟨.done, [], 0, 0, x⟩ :=
  ⟨by show (0 : Int) ≤ 0 ∧ (0 : Int) < 4294967296; omega, ⟨Nat.le_refl _, by simp⟩, kind, 0, 0, 0, 0, 0, 0, 0, rfl, .inl ⟨rfl, rfl⟩, ⟨none, 0, 0, rfl⟩, fun e => by rcases e with e | e <;> cases e⟩

theorem R11.xlt {w : World} {c : Cfg} {v tv xvl : Value} {s : PM} (h : R11 w v (linksL c) tv xvl s) (hs : s.pc = .spare ∨ s.pc = .last) (hl : 0 < (linksL c).length) {g : Nat} (hg : xvl.ownBlock = some g) : g < w.heap.size := by
  obtain ⟨_, _, kind, xk, xpc, xhd, xi, xh, xl, xt, _, _, _, h6⟩ := h
  exact (h6 hs).row.blockLt (by simpa using hl) g hg

end Go.Proofs.YtfbcadknimfhjaaGreat
