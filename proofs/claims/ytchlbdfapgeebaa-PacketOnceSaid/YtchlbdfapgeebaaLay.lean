/- Where things stand in memory: the numbers of a configuration's map. No program. -/
import Derived.Test.YtchlbdfapgeebaaSz
namespace Go.Proofs.Ytchlbdfapgeebaa
open Go.RowKit

def sumI (l : List Int) : Int := l.foldr (· + ·) 0

theorem sumI_append (a b : List Int) : sumI (a ++ b) = sumI a + sumI b := by
  induction a with
  | nil => simp [sumI]
  | cons x l ih => simp only [sumI, List.cons_append, List.foldr_cons] at *; omega

theorem sumI_take_succ (l : List Int) (k : Nat) (h : k < l.length) : sumI (l.take (k + 1)) = sumI (l.take k) + l[k]?.getD 0 := by
  rw [List.take_add_one, sumI_append, List.getElem?_eq_getElem h]; simp [sumI]

theorem sumI_bound (l : List Int) (A B : Int) (h : ∀ x ∈ l, A ≤ x ∧ x ≤ B) : A * l.length ≤ sumI l ∧ sumI l ≤ B * l.length := by
  induction l with
  | nil => simp [sumI]
  | cons x l ih =>
    have := ih (fun y hy => h y (by simp [hy]))
    have := h x (by simp)
    simp only [sumI, List.foldr_cons, List.length_cons] at *
    push_cast
    rw [Int.mul_add, Int.mul_add]; omega

/-- The class of each node, the first one first. -/
def clsL (c : Cfg) : List Int := List.replicate c.c0.toNat 0 ++ (List.replicate c.c1.toNat 1 ++ (List.replicate c.c2.toNat 2 ++ (List.replicate c.c3.toNat 3 ++ List.replicate c.c4.toNat 4)))

/-- How many slots each node has. -/
def rooms (c : Cfg) : List Int := (clsL c).map slotsI

/-- How many nodes. -/
def nN (c : Cfg) : Nat := (rooms c).length

theorem nN_cls (c : Cfg) : (clsL c).length = nN c := by simp [nN, rooms]

theorem nN_eq {c : Cfg} (h : Good c) : (nN c : Int) = c.c0 + c.c1 + c.c2 + c.c3 + c.c4 := by
  obtain ⟨h0, h1, h2, h3, h4, _⟩ := h
  simp [nN, rooms, clsL]; omega

theorem nN_bound {c : Cfg} (h : Good c) : 1 ≤ nN c ∧ nN c ≤ 60 := by
  have := nN_eq h
  obtain ⟨h0, h1, h2, h3, h4, _, _, _, _, _, _, _, hp⟩ := h
  omega

theorem nodesI_eq {c : Cfg} (h : Good c) : nodesI c = nN c := by
  rw [nN_eq h]
  obtain ⟨h0, h1, h2, h3, h4, _⟩ := h
  unfold nodesI clampI; omega

theorem clsL_mem (c : Cfg) : ∀ x ∈ clsL c, 0 ≤ x ∧ x ≤ 4 := by
  intro x hx
  simp only [clsL, List.mem_append, List.mem_replicate] at hx
  omega

theorem slotsI_bound (k : Int) : 0 ≤ slotsI k ∧ slotsI k ≤ 16 := by
  unfold slotsI; repeat (first | omega | split)

theorem slotsI_pos {k : Int} (h0 : 0 ≤ k) (h1 : k ≤ 4) : 1 ≤ slotsI k := by
  unfold slotsI; repeat (first | omega | split)

theorem rooms_mem (c : Cfg) : ∀ x ∈ rooms c, 1 ≤ x ∧ x ≤ 16 := by
  intro x hx
  simp only [rooms, List.mem_map] at hx
  obtain ⟨k, hk, rfl⟩ := hx
  have := clsL_mem c k hk
  have := slotsI_bound k
  have := slotsI_pos (k := k) (by omega) (by omega)
  omega

theorem rooms_get {c : Cfg} {k : Nat} (h : k < nN c) : 1 ≤ (rooms c)[k]?.getD 0 ∧ (rooms c)[k]?.getD 0 ≤ 16 := by
  rw [List.getElem?_eq_getElem h]
  exact rooms_mem c _ (List.getElem_mem _)

/-- How many packets. -/
def manyI (c : Cfg) : Int := nN c + 2 * c.mks + c.mus + sumI ((rooms c).map fun r => (r + c.ch - 1) / c.ch)
def partsI (c : Cfg) : Int := ((nN c : Int) + c.sw - 1) / c.sw
def headI (c : Cfg) : Int := 6 + c.mus
def dqsI (c : Cfg) : Int := headI c + 5
def pksI (c : Cfg) : Int := dqsI c + c.mks * (2 + c.dq)
def node0I (c : Cfg) : Int := pksI c + manyI c * 6
/-- Where the k-th node's words begin (from 0 on). -/
def atI (c : Cfg) (k : Nat) : Int := node0I c + sumI (((rooms c).map fun r => 4 + r).take k)
def allI (c : Cfg) : Int := atI c (nN c)
def atL (c : Cfg) : List Int := (List.range (nN c)).map (atI c)

theorem piece_bound {c : Cfg} (h : Good c) (k : Nat) : 0 ≤ sumI (((rooms c).map fun r => (r + c.ch - 1) / c.ch).take k) ∧ sumI (((rooms c).map fun r => (r + c.ch - 1) / c.ch).take k) ≤ 1920 := by
  have hn := nN_bound h
  obtain ⟨_, _, _, _, _, _, _, _, hch, _⟩ := h
  have := sumI_bound (((rooms c).map fun r => (r + c.ch - 1) / c.ch).take k) 0 32 (fun x hx => by
    have := List.mem_of_mem_take hx
    simp only [List.mem_map] at this
    obtain ⟨r, hr, rfl⟩ := this
    have := rooms_mem c r hr
    refine ⟨Int.ediv_nonneg (by omega) (by omega), ?_⟩
    have : (r + c.ch - 1) / c.ch < 33 := by
      rw [Int.ediv_lt_iff_lt_mul (by omega)]
      omega
    omega)
  have hl : (((rooms c).map fun r => (r + c.ch - 1) / c.ch).take k).length ≤ 60 := by
    have : (rooms c).length = nN c := rfl
    simp; omega
  omega

theorem manyI_bound {c : Cfg} (h : Good c) : 4 ≤ manyI c ∧ manyI c ≤ 2000 := by
  have hn := nN_bound h
  have hp := piece_bound h (nN c)
  rw [List.take_of_length_le (by simp [nN])] at hp
  obtain ⟨_, _, _, _, _, hm, hu, _⟩ := h
  unfold manyI
  omega

theorem at_bound (c : Cfg) (h : Good c) (k : Nat) : 0 ≤ sumI (((rooms c).map fun r => 4 + r).take k) ∧ sumI (((rooms c).map fun r => 4 + r).take k) ≤ 1200 := by
  have hn := nN_bound h
  have := sumI_bound (((rooms c).map fun r => 4 + r).take k) 0 20 (fun x hx => by
    have := List.mem_of_mem_take hx
    simp only [List.mem_map] at this
    obtain ⟨r, hr, rfl⟩ := this
    have := rooms_mem c r hr
    omega)
  have hl : (((rooms c).map fun r => 4 + r).take k).length ≤ 60 := by
    have : (rooms c).length = nN c := rfl
    simp; omega
  omega

theorem dqs_bound {c : Cfg} (h : Good c) : 12 ≤ dqsI c ∧ dqsI c ≤ 15 ∧ 16 ≤ pksI c ∧ pksI c ≤ 55 := by
  obtain ⟨_, _, _, _, _, hm, hu, hd, _⟩ := h
  have h1 : 1 * (2 + c.dq) ≤ c.mks * (2 + c.dq) := Int.mul_le_mul_of_nonneg_right (by omega) (by omega)
  have h2 : c.mks * (2 + c.dq) ≤ 4 * (2 + c.dq) := Int.mul_le_mul_of_nonneg_right (by omega) (by omega)
  unfold pksI dqsI headI
  omega

theorem node0_bound {c : Cfg} (h : Good c) : 40 ≤ node0I c ∧ node0I c ≤ 12055 := by
  have := dqs_bound h
  have := manyI_bound h
  unfold node0I; omega

theorem atI_bound {c : Cfg} (h : Good c) (k : Nat) : 40 ≤ atI c k ∧ atI c k ≤ 14000 := by
  have := node0_bound h
  have := at_bound c h k
  unfold atI; omega

theorem atI_succ {c : Cfg} {k : Nat} (h : k < nN c) : atI c (k + 1) = atI c k + (4 + (rooms c)[k]?.getD 0) := by
  unfold atI
  rw [sumI_take_succ _ _ (by simpa [nN] using h), List.getElem?_map, List.getElem?_eq_getElem h]
  simp; omega

/-- Places; -1: there is no such thing. -/
def pEnd (c : Cfg) (i j : Int) : Int := if 0 ≤ i ∧ i < c.mks then dqsI c + i * (2 + c.dq) + j else -1
def pEntry (c : Cfg) (i j : Int) : Int := if 0 ≤ j ∧ j < c.dq then pEnd c i (2 + j) else -1
def pAck (c : Cfg) (i : Int) : Int := if 0 ≤ i ∧ i < c.mus then 6 + i else -1
def pHead (c : Cfg) (k : Int) : Int := if 0 ≤ k ∧ k < 5 then headI c + k else -1
def pPack (c : Cfg) (p j : Int) : Int := if 1 ≤ p ∧ p ≤ manyI c then pksI c + (p - 1) * 6 + j else -1
def pTask (c : Cfg) (p j : Int) : Int := if 0 ≤ j ∧ j < 4 then pPack c p (2 + j) else -1
def room (c : Cfg) (v : Int) : Int := if 1 ≤ v ∧ v ≤ nN c then (rooms c)[(v - 1).toNat]?.getD 0 else 0
def pNode (c : Cfg) (v j : Int) : Int := if 1 ≤ v ∧ v ≤ nN c then atI c (v - 1).toNat + j else -1
def pSlot (c : Cfg) (v i : Int) : Int := if 0 ≤ i ∧ i < room c v then pNode c v (4 + i) else -1
def clsI (c : Cfg) (v : Int) : Int := if 1 ≤ v ∧ v ≤ nN c then (clsL c)[(v - 1).toNat]?.getD 0 else -1

theorem room_zero {c : Cfg} {v : Int} : room c v = 0 ↔ ¬ (1 ≤ v ∧ v ≤ nN c) := by
  unfold room
  split
  · next h =>
    have := (rooms_get (c := c) (k := (v - 1).toNat) (by omega)).1
    omega
  · next h => simp; omega

theorem room_bound (c : Cfg) (v : Int) : 0 ≤ room c v ∧ room c v ≤ 16 := by
  unfold room
  split
  · next h =>
    have := rooms_get (c := c) (k := (v - 1).toNat) (by omega)
    omega
  · omega

/-- A map of a configuration stands at a block, all of it below block B. -/
def MapAt (w : World) (B bm : Nat) (c : Cfg) : Prop := ∃ va vr, bm < B ∧
  Blk w bm 57 [.int .i64 6, .int .i64 (headI c), .int .i64 (dqsI c), .int .i64 (pksI c), .int .i64 (node0I c), .int .i64 (nN c), .int .i64 (manyI c), .int .i64 (partsI c), .int .i64 (allI c),
    .int .i64 c.c0, .int .i64 c.c1, .int .i64 c.c2, .int .i64 c.c3, .int .i64 c.c4, .int .i64 c.mks, .int .i64 c.mus, .int .i64 c.dq, .int .i64 c.ch, .int .i64 c.bu, .int .i64 c.ro, .int .i64 c.sw, va, vr] ∧ RowIn w B va ((atL c).map (Value.int .i64)) ∧ RowIn w B vr ((rooms c).map (Value.int .i64))

theorem MapAt.below {w w' : World} {B B' bm : Nat} {c : Cfg} (h : MapAt w B bm c) (k : Below B' w w') (hB : B ≤ B') : MapAt w' B bm c := by
  obtain ⟨va, vr, h0, h1, h2, h3⟩ := h
  refine ⟨va, vr, h0, ?_, h2.below k hB, h3.below k hB⟩
  unfold Blk; rw [k.block bm (by omega)]; exact h1

theorem MapAt.kept {w w' : World} {B bm : Nat} {c : Cfg} (h : MapAt w B bm c) (k : Kept w w') (hB : B ≤ w.heap.size) : MapAt w' B bm c := h.below k hB

theorem MapAt.drewN {w : World} {B bm : Nat} {c : Cfg} (h : MapAt w B bm c) (n : Nat) : MapAt (w.drewN n) B bm c := h.below (B' := B) ⟨rfl, rfl, rfl, Nat.le_refl _, fun _ _ => rfl⟩ (Nat.le_refl _)

end Go.Proofs.Ytchlbdfapgeebaa
