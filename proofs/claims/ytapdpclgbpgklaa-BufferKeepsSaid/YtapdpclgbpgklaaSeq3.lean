/- How many steps a packet that is put takes: plain numbers. No program. -/
import Derived.Test.YtapdpclgbpgklaaSeq2
namespace Go.Proofs.Ytapdpclgbpgklaa
open Go.RowKit

theorem spare_busy {c : Cfg} {mem : List Int} {t : List Int} {hd i h l p0 : Int} {j : Nat} (hz : loI (mget mem hd) ≠ 0) (k : Nat) (hk : k < 3) : (pmRun c k (mem, ⟨.spare, t, j, p0, ⟨.popHead, hd, i, h, l⟩⟩)).2.pc ≠ .done := by
  have e1 : pmRun c 1 (mem, ⟨.spare, t, j, p0, ⟨.popHead, hd, i, h, l⟩⟩) = (mem, ⟨.spare, t, j, p0, ⟨.popLink, hd, loI (mget mem hd), mget mem hd, l⟩⟩) := sp_popHead hz
  have e2 : pmRun c 2 (mem, ⟨.spare, t, j, p0, ⟨.popHead, hd, i, h, l⟩⟩) = (mem, ⟨.spare, t, j, p0, ⟨.popSwap, hd, loI (mget mem hd), mget mem hd, loI (mget mem (lnk c (loI (mget mem hd))))⟩⟩) := by
    rw [pmRun, e1]; exact sp_popLink
  match k, hk with
  | 0, _ => intro e; cases e
  | 1, _ => rw [e1]; intro e; cases e
  | 2, _ => rw [e2]; intro e; cases e

theorem push_busy {c : Cfg} {mem : List Int} {t : List Int} {hd i h l p0 : Int} {j : Nat} (k : Nat) (hk : k < 3) : (pmRun c k (mem, ⟨.last, t, j, p0, ⟨.pushHead, hd, i, h, l⟩⟩)).2.pc ≠ .done := by
  have e1 : pmRun c 1 (mem, ⟨.last, t, j, p0, ⟨.pushHead, hd, i, h, l⟩⟩) = (mem, ⟨.last, t, j, p0, ⟨.pushLink, hd, i, mget mem hd, loI (mget mem hd)⟩⟩) := st_pushHead
  have e2 : pmRun c 2 (mem, ⟨.last, t, j, p0, ⟨.pushHead, hd, i, h, l⟩⟩) = (mput mem (lnk c i) (loI (mget mem hd)), ⟨.last, t, j, p0, ⟨.pushSwap, hd, i, mget mem hd, loI (mget mem hd)⟩⟩) := by
    rw [pmRun, e1]; exact st_pushLink
  match k, hk with
  | 0, _ => intro e; cases e
  | 1, _ => rw [e1]; intro e; cases e
  | 2, _ => rw [e2]; intro e; cases e

/-- A packet of n tasks that is put alone takes 7 + n steps. -/
theorem seqPut_steps {c : Cfg} {mem : List Int} {p : Int} {P S t : List Int} (hg : Good c) (hi : Inv c mem P (p :: S)) (ht : 0 < t.length) : ∀ k, k < 7 + t.length → (pmRun c k (mem, putM t)).2.pc ≠ .done := by
  have hp := hi.rng p (by simp)
  have hA := allI_bound hg
  have hlen := hi.len
  have h5 : (0 : Int) ≤ 5 ∧ (5 : Int) < mem.length := by omega
  have e0 : loI (mget mem 5) = p := hi.spare.1
  have hz : loI (mget mem 5) ≠ 0 := by rw [e0]; omega
  have e1 := run_spare (c := c) (t := t) (hd := 5) (i := 0) (h := 0) (l := 0) (p0 := 0) (j := 0) h5 hz
  generalize mput mem 5 (turnI (mget mem 5) (loI (mget mem (lnk c (loI (mget mem 5)))))) = m1 at e1
  intro k hk
  by_cases k3 : k < 3
  · exact spare_busy hz k k3
  · obtain ⟨k1, rfl⟩ := Nat.exists_eq_add_of_le (show 3 ≤ k by omega)
    rw [pmRun_add, e1]
    by_cases kn : k1 < t.length
    · rw [run_fill k1 kn]; intro e; cases e
    · obtain ⟨k2, rfl⟩ := Nat.exists_eq_add_of_le (show t.length ≤ k1 by omega)
      rw [pmRun_add, run_fillAll ht]
      match k2 with
      | 0 => intro e; cases e
      | k4 + 1 =>
        rw [show k4 + 1 = 1 + k4 from by omega, pmRun_add]
        rw [show ∀ m x, pmRun c 1 (m, (⟨.many, t, t.length, loI (mget mem 5), x⟩ : PM)) = (mput m (pPack c (loI (mget mem 5)) 0) t.length, ⟨.last, t, t.length, loI (mget mem 5), ⟨.pushHead, 4, loI (mget mem 5), 0, 0⟩⟩) from fun m x => st_many x]
        exact push_busy k4 (by omega)

end Go.Proofs.Ytapdpclgbpgklaa
