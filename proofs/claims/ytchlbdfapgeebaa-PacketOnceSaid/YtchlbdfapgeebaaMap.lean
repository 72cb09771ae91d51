/- The map's methods, walked. -/
import Derived.Test.YtchlbdfapgeebaaLay
import Derived.Test.YtchlbdfapgeebaaMin
import Derived.Deep.RegionHeld3
import Derived.Deep.QuietTactic
import Derived.BigQuiet
namespace Go.Proofs.Ytchlbdfapgeebaa
open Go.RowKit

theorem MapAt.cells {w : World} {B bm : Nat} {c : Cfg} (h : MapAt w B bm c) : bm < B ∧ w.cell? ⟨bm, 0, none⟩ = some (.int .i64 6) ∧ w.cell? ⟨bm, 1, none⟩ = some (.int .i64 (headI c)) ∧ w.cell? ⟨bm, 2, none⟩ = some (.int .i64 (dqsI c)) ∧ w.cell? ⟨bm, 3, none⟩ = some (.int .i64 (pksI c)) ∧
    w.cell? ⟨bm, 4, none⟩ = some (.int .i64 (node0I c)) ∧ w.cell? ⟨bm, 5, none⟩ = some (.int .i64 (nN c)) ∧ w.cell? ⟨bm, 6, none⟩ = some (.int .i64 (manyI c)) ∧ w.cell? ⟨bm, 7, none⟩ = some (.int .i64 (partsI c)) ∧ w.cell? ⟨bm, 8, none⟩ = some (.int .i64 (allI c)) := by
  obtain ⟨va, vr, hlt, h1, _, _⟩ := h
  exact ⟨hlt, h1.cell 0, h1.cell 1, h1.cell 2, h1.cell 3, h1.cell 4, h1.cell 5, h1.cell 6, h1.cell 7, h1.cell 8⟩

theorem MapAt.lt {w : World} {B bm : Nat} {c : Cfg} (h : MapAt w B bm c) : bm < w.heap.size := by
  obtain ⟨va, vr, hlt, h1, _, _⟩ := h
  exact h1.lt

theorem MapAt.conf {w : World} {B bm : Nat} {c : Cfg} (h : MapAt w B bm c) : w.cell? ⟨bm, 9, none⟩ = some (.int .i64 c.c0) ∧ w.cell? ⟨bm, 10, none⟩ = some (.int .i64 c.c1) ∧ w.cell? ⟨bm, 11, none⟩ = some (.int .i64 c.c2) ∧ w.cell? ⟨bm, 12, none⟩ = some (.int .i64 c.c3) ∧ w.cell? ⟨bm, 13, none⟩ = some (.int .i64 c.c4) ∧ w.cell? ⟨bm, 14, none⟩ = some (.int .i64 c.mks) ∧ w.cell? ⟨bm, 15, none⟩ = some (.int .i64 c.mus) ∧ w.cell? ⟨bm, 16, none⟩ = some (.int .i64 c.dq) ∧ w.cell? ⟨bm, 17, none⟩ = some (.int .i64 c.ch) ∧ w.cell? ⟨bm, 18, none⟩ = some (.int .i64 c.bu) ∧ w.cell? ⟨bm, 19, none⟩ = some (.int .i64 c.ro) ∧ w.cell? ⟨bm, 20, none⟩ = some (.int .i64 c.sw) := by
  obtain ⟨va, vr, hlt, h1, _, _⟩ := h
  exact ⟨h1.cell 9, h1.cell 10, h1.cell 11, h1.cell 12, h1.cell 13, h1.cell 14, h1.cell 15, h1.cell 16, h1.cell 17, h1.cell 18, h1.cell 19, h1.cell 20⟩

/-- A node's room, and where it begins, in memory. -/
theorem MapAt.node {w : World} {B bm : Nat} {c : Cfg} (h : MapAt w B bm c) {k : Nat} (hk : k < nN c) : ∃ ga ca gr cr, w.cell? ⟨bm, 21, none⟩ = some (.slice (some ⟨ga, 0, none⟩) (nN c) ca) ∧ w.cell? ⟨ga, k, none⟩ = some (.int .i64 (atI c k)) ∧
    w.cell? ⟨bm, 22, none⟩ = some (.slice (some ⟨gr, 0, none⟩) (nN c) cr) ∧ w.cell? ⟨gr, k, none⟩ = some (.int .i64 ((rooms c)[k]?.getD 0)) := by
  obtain ⟨va, vr, hlt, h1, h2, h3⟩ := h
  obtain ⟨aa, ca, rfl, _, hca⟩ := h2.ex
  obtain ⟨ar, cr, rfl, _, hcr⟩ := h3.ex
  obtain ⟨ga, rfl, _, hga⟩ := hca k (.int .i64 (atI c k)) (by simp [atL, List.getElem?_range hk])
  obtain ⟨gr, rfl, _, hgr⟩ := hcr k (.int .i64 ((rooms c)[k]?.getD 0)) (by rw [List.getElem?_map, List.getElem?_eq_getElem hk]; rfl)
  refine ⟨ga, ca, gr, cr, ?_, hga, ?_, hgr⟩
  · have := h1.cell 21; simpa [atL] using this
  · have := h1.cell 22; simpa [nN] using this

theorem single_any (bm : Nat) (at_ : Int) (w : World) :
    Calls Try.prog 52 #[.pointer (some ⟨bm, 0, none⟩), .int .i64 at_] w fun e w' => e = .returned (.int .i64 at_) ∧ w = w' := by
  go_enter Try.func52, Try.ntmps52
  go_wp2
  go_ret
  exact ⟨rfl, rfl⟩

theorem single_nil (at_ : Int) (w : World) :
    Calls Try.prog 52 #[.pointer none, .int .i64 at_] w fun e w' => e = .returned (.int .i64 (-1)) ∧ w = w' := by
  go_enter Try.func52, Try.ntmps52
  go_wp2
  go_ret
  exact ⟨rfl, rfl⟩

theorem mPool_any (bm : Nat) (w : World) : Calls Try.prog 41 #[.pointer (some ⟨bm, 0, none⟩)] w fun e w' => e = .returned (.int .i64 4) ∧ w = w' := by go_enter Try.func41, Try.ntmps41; go_wp2; go_ret; exact ⟨rfl, rfl⟩
theorem mPool_nil (w : World) : Calls Try.prog 41 #[.pointer none] w fun e w' => e = .returned (.int .i64 (-1)) ∧ w = w' := by go_enter Try.func41, Try.ntmps41; go_wp2; go_ret; exact ⟨rfl, rfl⟩

theorem mSpare_any (bm : Nat) (w : World) : Calls Try.prog 37 #[.pointer (some ⟨bm, 0, none⟩)] w fun e w' => e = .returned (.int .i64 5) ∧ w = w' := by go_enter Try.func37, Try.ntmps37; go_wp2; go_ret; exact ⟨rfl, rfl⟩
theorem mSpare_nil (w : World) : Calls Try.prog 37 #[.pointer none] w fun e w' => e = .returned (.int .i64 (-1)) ∧ w = w' := by go_enter Try.func37, Try.ntmps37; go_wp2; go_ret; exact ⟨rfl, rfl⟩

theorem packet_any {B bm : Nat} {c : Cfg} (p j : Int) (w : World) (hm : MapAt w B bm c) (hg : Good c) (hj0 : 0 ≤ j) (hj1 : j ≤ 10) :
    Calls Try.prog 43 #[.pointer (some ⟨bm, 0, none⟩), .int .i64 p, .int .i64 j] w fun e w' => e = .returned (.int .i64 (pPack c p j)) ∧ w = w' := by
  obtain ⟨_, _, _, _, c3, _, _, c6, _, _⟩ := hm.cells
  have hb := manyI_bound hg
  have hd := dqs_bound hg
  obtain ⟨hb0, hb1⟩ := hb
  obtain ⟨_, _, hd0, hd1⟩ := hd
  clear hm
  rcases (by omega : p < 1 ∨ (1 ≤ p ∧ manyI c < p) ∨ (1 ≤ p ∧ p ≤ manyI c)) with h | ⟨h, h'⟩ | ⟨h, h'⟩
  · have e : pPack c p j = -1 := by unfold pPack; rw [if_neg (by omega)]
    rw [e]; clear e
    go_enter Try.func43, Try.ntmps43
    go_wp2
    go_ret
    exact ⟨rfl, rfl⟩
  · have e : pPack c p j = -1 := by unfold pPack; rw [if_neg (by omega)]
    rw [e]; clear e
    go_enter Try.func43, Try.ntmps43
    go_wp2
    go_ret
    exact ⟨rfl, rfl⟩
  · have e : pPack c p j = pksI c + (p - 1) * 6 + j := by unfold pPack; rw [if_pos ⟨h, h'⟩]
    rw [e]; clear e
    go_enter Try.func43, Try.ntmps43
    go_wp2
    go_ret
    exact ⟨rfl, rfl⟩

theorem packet_nil (p j : Int) (w : World) :
    Calls Try.prog 43 #[.pointer none, .int .i64 p, .int .i64 j] w fun e w' => e = .returned (.int .i64 (-1)) ∧ w = w' := by
  go_enter Try.func43, Try.ntmps43
  go_wp2
  go_ret
  exact ⟨rfl, rfl⟩

theorem mMany_any {B bm : Nat} {c : Cfg} (p : Int) (w : World) (hm : MapAt w B bm c) (hg : Good c) :
    Calls Try.prog 17 #[.pointer (some ⟨bm, 0, none⟩), .int .i64 p] w fun e w' => e = .returned (.int .i64 (pPack c p 0)) ∧ w = w' := by
  go_enter Try.func17, Try.ntmps17
  go_wp2_with fail
  refine (packet_any _ _ _ hm hg (by omega) (by omega)).mono ?_; rintro e w' ⟨rfl, rfl⟩
  go_wp2_with fail
  go_ret
  exact ⟨rfl, rfl⟩

theorem mMany_nil (p : Int) (w : World) :
    Calls Try.prog 17 #[.pointer none, .int .i64 p] w fun e w' => e = .returned (.int .i64 (-1)) ∧ w = w' := by
  go_enter Try.func17, Try.ntmps17
  go_wp2
  go_ret
  exact ⟨rfl, rfl⟩

theorem mLink_any {B bm : Nat} {c : Cfg} (p : Int) (w : World) (hm : MapAt w B bm c) (hg : Good c) :
    Calls Try.prog 28 #[.pointer (some ⟨bm, 0, none⟩), .int .i64 p] w fun e w' => e = .returned (.int .i64 (pPack c p 1)) ∧ w = w' := by
  go_enter Try.func28, Try.ntmps28
  go_wp2_with fail
  refine (packet_any _ _ _ hm hg (by omega) (by omega)).mono ?_; rintro e w' ⟨rfl, rfl⟩
  go_wp2_with fail
  go_ret
  exact ⟨rfl, rfl⟩

theorem mLink_nil (p : Int) (w : World) :
    Calls Try.prog 28 #[.pointer none, .int .i64 p] w fun e w' => e = .returned (.int .i64 (-1)) ∧ w = w' := by
  go_enter Try.func28, Try.ntmps28
  go_wp2
  go_ret
  exact ⟨rfl, rfl⟩

theorem mTask_any {B bm : Nat} {c : Cfg} (p j : Int) (w : World) (hm : MapAt w B bm c) (hg : Good c) :
    Calls Try.prog 16 #[.pointer (some ⟨bm, 0, none⟩), .int .i64 p, .int .i64 j] w fun e w' => e = .returned (.int .i64 (pTask c p j)) ∧ w = w' := by
  rcases (by omega : j < 0 ∨ (0 ≤ j ∧ 4 ≤ j) ∨ (0 ≤ j ∧ j < 4)) with h | ⟨h, h'⟩ | ⟨h, h'⟩
  · rw [show pTask c p j = -1 from if_neg (by omega)]
    go_enter Try.func16, Try.ntmps16
    go_wp2_with fail
    go_ret
    exact ⟨rfl, rfl⟩
  · rw [show pTask c p j = -1 from if_neg (by omega)]
    go_enter Try.func16, Try.ntmps16
    go_wp2_with fail
    go_ret
    exact ⟨rfl, rfl⟩
  · rw [show pTask c p j = pPack c p (2 + j) from if_pos ⟨h, h'⟩]
    go_enter Try.func16, Try.ntmps16
    go_wp2_with fail
    refine (packet_any _ _ _ hm hg (by omega) (by omega)).mono ?_; rintro e w' ⟨rfl, rfl⟩
    go_wp2_with fail
    go_ret
    exact ⟨rfl, rfl⟩

theorem mul_small {x y X Y : Int} (hx0 : 0 ≤ x) (hx1 : x ≤ X) (hy0 : 0 ≤ y) (hy1 : y ≤ Y) : 0 ≤ x * y ∧ x * y ≤ X * Y :=
  ⟨Int.mul_nonneg hx0 hy0, Int.mul_le_mul hx1 hy1 hy0 (by omega)⟩

theorem mHead_any {B bm : Nat} {c : Cfg} (k : Int) (w : World) (hm : MapAt w B bm c) (hg : Good c) :
    Calls Try.prog 33 #[.pointer (some ⟨bm, 0, none⟩), .int .i64 k] w fun e w' => e = .returned (.int .i64 (pHead c k)) ∧ w = w' := by
  obtain ⟨_, _, c1, _⟩ := hm.cells
  have hh : 7 ≤ headI c ∧ headI c ≤ 10 := by obtain ⟨_, _, _, _, _, _, hu, _⟩ := hg; unfold headI; omega
  obtain ⟨hh0, hh1⟩ := hh
  clear hm hg
  rcases (by omega : k < 0 ∨ (0 ≤ k ∧ 5 ≤ k) ∨ (0 ≤ k ∧ k < 5)) with h | ⟨h, h'⟩ | ⟨h, h'⟩
  · rw [show pHead c k = -1 from if_neg (by omega)]
    go_enter Try.func33, Try.ntmps33
    go_wp2
    go_ret
    exact ⟨rfl, rfl⟩
  · rw [show pHead c k = -1 from if_neg (by omega)]
    go_enter Try.func33, Try.ntmps33
    go_wp2
    go_ret
    exact ⟨rfl, rfl⟩
  · rw [show pHead c k = headI c + k from if_pos ⟨h, h'⟩]
    go_enter Try.func33, Try.ntmps33
    go_wp2
    go_ret
    exact ⟨rfl, rfl⟩

theorem mRoom_any {B bm : Nat} {c : Cfg} (v : Int) (w : World) (hm : MapAt w B bm c) (hg : Good c) :
    Calls Try.prog 30 #[.pointer (some ⟨bm, 0, none⟩), .int .i64 v] w fun e w' => e = .returned (.int .i64 (room c v)) ∧ w = w' := by
  obtain ⟨_, _, _, _, _, _, c5, _⟩ := hm.cells
  have hn := nN_bound hg
  obtain ⟨hn0, hn1⟩ := hn
  rcases (by omega : v < 1 ∨ (1 ≤ v ∧ (nN c : Int) < v) ∨ (1 ≤ v ∧ v ≤ nN c)) with h | ⟨h, h'⟩ | ⟨h, h'⟩
  · rw [show room c v = 0 from if_neg (by omega)]
    clear hm hg
    go_enter Try.func30, Try.ntmps30
    go_wp2
    go_ret
    exact ⟨rfl, rfl⟩
  · rw [show room c v = 0 from if_neg (by omega)]
    clear hm hg
    go_enter Try.func30, Try.ntmps30
    go_wp2
    go_ret
    exact ⟨rfl, rfl⟩
  · obtain ⟨k, rfl⟩ : ∃ k : Nat, v = k + 1 := ⟨(v - 1).toNat, by omega⟩
    have hk : k < nN c := by omega
    obtain ⟨ga, ca, gr, cr, _, _, c22, cr0⟩ := hm.node hk
    rw [show room c (k + 1) = (rooms c)[k]?.getD 0 from by unfold room; rw [if_pos ⟨h, h'⟩]; simp]
    have h'' : (k : Int) < nN c := by omega
    generalize (rooms c)[k]?.getD 0 = x at *
    clear hm hg
    go_enter Try.func30, Try.ntmps30
    go_wp2
    go_ret
    exact ⟨rfl, rfl⟩

theorem mRoom_nil (v : Int) (w : World) :
    Calls Try.prog 30 #[.pointer none, .int .i64 v] w fun e w' => e = .returned (.int .i64 0) ∧ w = w' := by
  go_enter Try.func30, Try.ntmps30
  go_wp2
  go_ret
  exact ⟨rfl, rfl⟩

theorem room_is {B bm : Nat} {c : Cfg} {v n : Int} (h : room c v = n) (w : World) (hm : MapAt w B bm c) (hg : Good c) :
    Calls Try.prog 30 #[.pointer (some ⟨bm, 0, none⟩), .int .i64 v] w fun e w' => e = .returned (.int .i64 n) ∧ w = w' := h ▸ mRoom_any v w hm hg

theorem node_any {B bm : Nat} {c : Cfg} (v j : Int) (w : World) (hm : MapAt w B bm c) (hg : Good c) (hj0 : 0 ≤ j) (hj1 : j ≤ 40) :
    Calls Try.prog 50 #[.pointer (some ⟨bm, 0, none⟩), .int .i64 v, .int .i64 j] w fun e w' => e = .returned (.int .i64 (pNode c v j)) ∧ w = w' := by
  by_cases h : 1 ≤ v ∧ v ≤ nN c
  · obtain ⟨k, rfl⟩ : ∃ k : Nat, v = k + 1 := ⟨(v - 1).toNat, by omega⟩
    have hk : k < nN c := by omega
    obtain ⟨ga, ca, gr, cr, c21, ca0, _, _⟩ := hm.node hk
    have hr : room c (k + 1) = (rooms c)[k]?.getD 0 := by unfold room; rw [if_pos h]; simp
    have hrb := rooms_get hk
    obtain ⟨hrb0, hrb1⟩ := hrb
    rw [show pNode c (k + 1) j = atI c k + j from by unfold pNode; rw [if_pos h]; simp]
    have hab := atI_bound hg k
    obtain ⟨hab0, hab1⟩ := hab
    have hn1 := (nN_bound hg).2
    have HR : Hid (room c (k + 1) = (rooms c)[k]?.getD 0) := hr
    have h0 : ((rooms c)[k]?.getD 0 == 0) = false := by simp; omega
    have h'' : (k : Int) < nN c := by omega
    generalize (rooms c)[k]?.getD 0 = x at *
    generalize atI c k = y at *
    clear hr h
    go_enter Try.func50, Try.ntmps50
    go_wp2_with fail
    refine (room_is HR.out _ hm hg).mono ?_; rintro e w' ⟨rfl, rfl⟩
    go_wp2_with fail
    go_ret
    exact ⟨rfl, rfl⟩
  · rw [show pNode c v j = -1 from if_neg h]
    have HR : Hid (room c v = 0) := room_zero.2 h
    clear h
    go_enter Try.func50, Try.ntmps50
    go_wp2_with fail
    refine (room_is HR.out _ hm hg).mono ?_; rintro e w' ⟨rfl, rfl⟩
    go_wp2_with fail
    go_ret
    exact ⟨rfl, rfl⟩

theorem node_nil (v j : Int) (w : World) :
    Calls Try.prog 50 #[.pointer none, .int .i64 v, .int .i64 j] w fun e w' => e = .returned (.int .i64 (-1)) ∧ w = w' := by
  go_enter Try.func50, Try.ntmps50
  go_wp2
  go_ret
  exact ⟨rfl, rfl⟩

theorem mHeader_any {B bm : Nat} {c : Cfg} (v : Int) (w : World) (hm : MapAt w B bm c) (hg : Good c) :
    Calls Try.prog 32 #[.pointer (some ⟨bm, 0, none⟩), .int .i64 v] w fun e w' => e = .returned (.int .i64 (pNode c v 0)) ∧ w = w' := by
  go_enter Try.func32, Try.ntmps32
  go_wp2_with fail
  refine (node_any _ _ _ hm hg (by omega) (by omega)).mono ?_; rintro e w' ⟨rfl, rfl⟩
  go_wp2_with fail
  go_ret
  exact ⟨rfl, rfl⟩

theorem mState_any {B bm : Nat} {c : Cfg} (v : Int) (w : World) (hm : MapAt w B bm c) (hg : Good c) :
    Calls Try.prog 31 #[.pointer (some ⟨bm, 0, none⟩), .int .i64 v] w fun e w' => e = .returned (.int .i64 (pNode c v 1)) ∧ w = w' := by
  go_enter Try.func31, Try.ntmps31
  go_wp2_with fail
  refine (node_any _ _ _ hm hg (by omega) (by omega)).mono ?_; rintro e w' ⟨rfl, rfl⟩
  go_wp2_with fail
  go_ret
  exact ⟨rfl, rfl⟩

theorem mNext_any {B bm : Nat} {c : Cfg} (v : Int) (w : World) (hm : MapAt w B bm c) (hg : Good c) :
    Calls Try.prog 35 #[.pointer (some ⟨bm, 0, none⟩), .int .i64 v] w fun e w' => e = .returned (.int .i64 (pNode c v 3)) ∧ w = w' := by
  go_enter Try.func35, Try.ntmps35
  go_wp2_with fail
  refine (node_any _ _ _ hm hg (by omega) (by omega)).mono ?_; rintro e w' ⟨rfl, rfl⟩
  go_wp2_with fail
  go_ret
  exact ⟨rfl, rfl⟩

theorem mNodes_any {B bm : Nat} {c : Cfg} (w : World) (hm : MapAt w B bm c) :
    Calls Try.prog 49 #[.pointer (some ⟨bm, 0, none⟩)] w fun e w' => e = .returned (.int .i64 ((nN c : Int))) ∧ w = w' := by
  obtain ⟨_, _, _, _, _, _, c5, c6, _, c8⟩ := hm.cells
  go_enter Try.func49, Try.ntmps49
  go_wp2
  go_ret
  exact ⟨rfl, rfl⟩

theorem mPackets_any {B bm : Nat} {c : Cfg} (w : World) (hm : MapAt w B bm c) :
    Calls Try.prog 10 #[.pointer (some ⟨bm, 0, none⟩)] w fun e w' => e = .returned (.int .i64 (manyI c)) ∧ w = w' := by
  obtain ⟨_, _, _, _, _, _, c5, c6, _, c8⟩ := hm.cells
  go_enter Try.func10, Try.ntmps10
  go_wp2
  go_ret
  exact ⟨rfl, rfl⟩

theorem mNodes_nil (w : World) :
    Calls Try.prog 49 #[.pointer none] w fun e w' => e = .returned (.int .i64 0) ∧ w = w' := by
  go_enter Try.func49, Try.ntmps49
  go_wp2
  go_ret
  exact ⟨rfl, rfl⟩

theorem mCommon_any {B bm : Nat} {c : Cfg} (w : World) (hm : MapAt w B bm c) :
    Calls Try.prog 29 #[.pointer (some ⟨bm, 0, none⟩)] w fun e w' => e = .returned (.int .i64 (nN c : Int)) ∧ w = w' := by
  go_enter Try.func29, Try.ntmps29
  go_wp2_with fail
  refine (mNodes_any _ hm).mono ?_; rintro e w' ⟨rfl, rfl⟩
  go_wp2_with fail
  go_ret
  exact ⟨rfl, rfl⟩

end Go.Proofs.Ytchlbdfapgeebaa
