/- Memory as it is at first: marks, the work; how many packets. Plain numbers. No program. -/
import Derived.Test.YtapdpclgbpgklaaGreatPkF
namespace Go.Proofs.YtapdpclgbpgklaaGreat
open Go.RowKit

theorem many_more {c : Cfg} (hg : Good c) : (nN c : Int) + 3 ≤ manyI c := by
  have h := piece_bound hg (nN c)
  have h1 : 1 ≤ c.mks ∧ 1 ≤ c.mus := by unfold Good at hg; omega
  unfold manyI
  have h2 : ((rooms c).map fun r => (r + c.ch - 1) / c.ch).take (nN c) = (rooms c).map fun r => (r + c.ch - 1) / c.ch := List.take_of_length_le (by simp [nN])
  rw [h2] at h
  omega

theorem linkTo_zero {c : Cfg} (hg : Good c) (k : Nat) (hk : (k : Int) < manyI c) (a : Int) (h5 : a ≠ 5) (hl : ∀ p, 1 ≤ p → p ≤ manyI c → a ≠ lnk c p) : mget (linkTo c k) a = 0 := by
  induction k with
  | zero =>
    unfold mget linkTo
    split
    · rw [List.getElem?_set_ne (by omega)]
      simp [List.getElem?_replicate]
      split <;> rfl
    · rfl
  | succ k ih =>
    rw [linkTo, mget_other (hl (k + 1) (by omega) (by omega)), ih (by omega)]

theorem freeTo_same {c : Cfg} (j : Nat) (hj : (j : Int) ≤ nN c - 1) (hn : 1 ≤ nN c) (a : Int) (h1 : ∀ v : Int, 1 ≤ v → v ≤ nN c → a ≠ pNode c v 0 ∧ a ≠ pNode c v 1 ∧ a ≠ pNode c v 3 ∧ a ≠ pHead c (clsI c v)) : mget (freeTo c j) a = mget (linkTo c (manyI c - 1).toNat) a := by
  induction j with
  | zero =>
    have := h1 (nN c) (by omega) (by omega)
    rw [freeTo, mget_other this.1, mget_other this.2.1]
  | succ j ih =>
    have := h1 (nN c - 1 - j) (by omega) (by omega)
    simp only [freeTo]
    rw [mget_other this.2.2.2, mget_other this.2.2.1, ih (by omega)]

theorem firstL_mark {c : Cfg} (hg : Good c) {v : Int} (hv : 1 ≤ v ∧ v ≤ nN c) : mget (firstL c) (pNode c v 2) = 0 := by
  have hn := nN_bound hg
  have hmb := manyI_bound hg
  have hp := mark_place hg hv
  have hnd := node0_bound hg
  have hks : pksI c ≤ node0I c := by show pksI c ≤ pksI c + manyI c * 6; omega
  unfold firstL
  rw [freeTo_same _ (by omega) hn.1 _ (fun u u1 u2 => ⟨node_ne hv ⟨u1, u2⟩ (by have := room_bound c v; omega) (by have := room_bound c u; omega) (.inr (by omega)), node_ne hv ⟨u1, u2⟩ (by have := room_bound c v; omega) (by have := room_bound c u; omega) (.inr (by omega)), node_ne hv ⟨u1, u2⟩ (by have := room_bound c v; omega) (by have := room_bound c u; omega) (.inr (by omega)), by have := head_place hg u1 u2; omega⟩)]
  refine linkTo_zero hg _ (by omega) _ (by omega) (fun p p1 p2 => ?_)
  have := pack_place hg p1 p2 (j := 1) (by omega) (by omega)
  show pNode c v 2 ≠ pPack c p 1
  omega

theorem firstL_work {c : Cfg} (hg : Good c) : mget (firstL c) 1 = 0 := by
  have hn := nN_bound hg
  have hmb := manyI_bound hg
  have hnd := node0_bound hg
  unfold firstL
  rw [freeTo_get hg _ (by omega) 1 (.inl (by omega))]
  refine linkTo_zero hg _ (by omega) _ (by omega) (fun p p1 p2 => ?_)
  have := pack_place hg p1 p2 (j := 1) (by omega) (by omega)
  show 1 ≠ pPack c p 1
  omega

end Go.Proofs.YtapdpclgbpgklaaGreat
