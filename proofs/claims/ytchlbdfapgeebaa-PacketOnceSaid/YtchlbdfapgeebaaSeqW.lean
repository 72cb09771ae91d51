/- What is in the pool: plain numbers. No program. -/
import Derived.Test.YtchlbdfapgeebaaSeq2
namespace Go.Proofs.Ytchlbdfapgeebaa
open Go.RowKit

theorem walk_linked {lf : Int → Int} {mem : List Int} (L : List Int) (place : Int) (k : Nat) (h : Linked lf mem place L) (hk : L.length ≤ k) (hp : 0 ≤ place ∧ place < mem.length) (hl : ∀ p ∈ L, p ≠ 0 ∧ 0 ≤ lf p ∧ lf p < mem.length) : walkL lf mem k place = L := by
  induction L generalizing place k with
  | nil =>
    cases k with
    | zero => rfl
    | succ k => rw [walkL, if_neg (by rw [show loI (mget mem place) = 0 from h]; simp)]
  | cons p L ih =>
    cases k with
    | zero => simp at hk
    | succ k =>
      have hq := hl p (by simp)
      rw [walkL, h.1, if_pos ⟨hp.1, hp.2, hq.1⟩, ih (lf p) k h.2 (by simp at hk; omega) hq.2 (fun r hr => hl r (by simp [hr]))]

theorem Inv.walk {c : Cfg} {mem P S : List Int} (hg : Good c) (hi : Inv c mem P S) (hl : (P.length : Int) ≤ manyI c) : walkL (lnk c) mem (manyI c).toNat 4 = P := by
  have hA := allI_bound hg
  have hlen := hi.len
  have hmb := manyI_bound hg
  refine walk_linked P 4 _ hi.pool (by omega) (by omega) (fun p hp => ?_)
  have hr := hi.rng p (by simp [hp])
  have hb := lnk_big hg hr
  omega

theorem tasks_content {c : Cfg} {mem : List Int} {p : Int} {ts : List Int} (h : Content c mem p ts) (hl : ts.length ≤ 4) : tasksL c mem p = ts := by
  unfold tasksL
  rw [h.1, show (min (ts.length : Int) 4).toNat = ts.length from by omega]
  apply List.ext_getElem?
  intro j
  by_cases hj : j < ts.length
  · simp [h.2 j hj, hj]
  · simp [List.getElem?_eq_none (show ts.length ≤ j by omega)]
    omega

theorem flatMap_congr' {f g : Int → List Int} {L : List Int} (h : ∀ p ∈ L, f p = g p) : L.flatMap f = L.flatMap g := by
  induction L with
  | nil => rfl
  | cons p L ih => rw [List.flatMap_cons, List.flatMap_cons, h p (by simp), ih (fun q hq => h q (by simp [hq]))]

theorem held_is {c : Cfg} {mem P S : List Int} {f : Int → List Int} (hg : Good c) (hi : Inv c mem P S) (hl : (P.length : Int) ≤ manyI c) (hf : ∀ p ∈ P, Content c mem p (f p) ∧ (f p).length ≤ 4) : heldL c mem = P.flatMap f := by
  unfold heldL
  rw [hi.walk hg hl]
  exact flatMap_congr' (fun p hp => tasks_content (hf p hp).1 (hf p hp).2)

theorem nodup_len {n : Nat} {L : List Int} (hd : L.Nodup) (h : ∀ v ∈ L, 1 ≤ v ∧ v ≤ n) : L.length ≤ n := by
  induction n generalizing L with
  | zero =>
    cases L with
    | nil => simp
    | cons a L => have := h a (by simp); omega
  | succ n ih =>
    by_cases hm : ((n : Int) + 1) ∈ L
    · have h1 := List.length_erase_of_mem hm
      have h2 := ih (hd.erase ((n : Int) + 1)) (fun v hv => by
        have h3 := h v (List.mem_of_mem_erase hv)
        have h4 : v ≠ (n : Int) + 1 := fun e => by
          subst e
          exact (hd.not_mem_erase hv).elim
        omega)
      have : 0 < L.length := List.length_pos_of_mem hm
      omega
    · have := ih hd (fun v hv => by
        have h3 := h v hv
        have h4 : v ≠ (n : Int) + 1 := fun e => hm (e ▸ hv)
        omega)
      omega

end Go.Proofs.Ytchlbdfapgeebaa
