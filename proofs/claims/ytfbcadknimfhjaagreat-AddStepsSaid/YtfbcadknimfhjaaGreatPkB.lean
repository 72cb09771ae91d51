/- The map's methods, walked. A configuration's map is made: walked. -/
import Derived.Test.YtfbcadknimfhjaaGreatPkA
import Derived.Deep.RegionHeld3
import Derived.Deep.QuietTactic
import Derived.BigQuiet
import Derived.Deep.AppendLies
import Derived.LoopTactic
namespace Go.Proofs.YtfbcadknimfhjaaGreat
open Go.RowKit

theorem MapAt.cells {w : World} {B bm : Nat} {c : Cfg} (h : MapAt w B bm c) : bm < B ∧ w.cell? ⟨bm, 0, none⟩ = some (.int .i64 6) ∧ w.cell? ⟨bm, 1, none⟩ = some (.int .i64 (headI c)) ∧ w.cell? ⟨bm, 2, none⟩ = some (.int .i64 (dqsI c)) ∧ w.cell? ⟨bm, 3, none⟩ = some (.int .i64 (pksI c)) ∧
    w.cell? ⟨bm, 4, none⟩ = some (.int .i64 (node0I c)) ∧ w.cell? ⟨bm, 5, none⟩ = some (.int .i64 (nN c)) ∧ w.cell? ⟨bm, 6, none⟩ = some (.int .i64 (manyI c)) ∧ w.cell? ⟨bm, 7, none⟩ = some (.int .i64 (partsI c)) ∧ w.cell? ⟨bm, 8, none⟩ = some (.int .i64 (allI c)) := by
  obtain ⟨va, vr, hlt, h1, _, _⟩ := h
  exact ⟨hlt, h1.cell 0, h1.cell 1, h1.cell 2, h1.cell 3, h1.cell 4, h1.cell 5, h1.cell 6, h1.cell 7, h1.cell 8⟩

theorem MapAt.lt {w : World} {B bm : Nat} {c : Cfg} (h : MapAt w B bm c) : bm < w.heap.size := by
  obtain ⟨va, vr, hlt, h1, _, _⟩ := h
  exact h1.lt

theorem MapAt.conf {w : World} {B bm : Nat} {c : Cfg} (h : MapAt w B bm c) : w.cell? ⟨bm, 9, none⟩ = some (.int .i64 c.c0) ∧ w.cell? ⟨bm, 10, none⟩ = some (.int .i64 c.c1) ∧ w.cell? ⟨bm, 11, none⟩ = some (.int .i64 c.c2) ∧ w.cell? ⟨bm, 12, none⟩ = some (.int .i64 c.c3) ∧ w.cell? ⟨bm, 13, none⟩ = some (.int .i64 c.c4) ∧ w.cell? ⟨bm, 14, none⟩ = some (.int .i64 c.mks) ∧ w.cell? ⟨bm, 15, none⟩ = some (.int .i64 c.mus) ∧ w.cell? ⟨bm, 16, none⟩ = some (.int .i64 c.dq) ∧ w.cell? ⟨bm, 17, none⟩ = some (.int .i64 c.ch) ∧ w.cell? ⟨bm, 18, none⟩ = some (.int .i64 c.bu) ∧ w.cell? ⟨bm, 19, none⟩ = some (.int .i64 c.ro) ∧ w.cell? ⟨bm, 20, none⟩ = some (.int .i64 c.sw) := by
  obtain ⟨va, vr, hlt, h1, _, _⟩ := h
  exact ⟨h1.cell 9, h1.cell 10, h1.cell 11, h1.cell 12, h1.cell 13, h1.cell 14, h1.cell 15, h1.cell 16, h1.cell 17, h1.cell 18, h1.cell 19, h1.cell 20⟩

/-- A node's room, and where it begins, in memory. -/
theorem MapAt.node {w : World} {B bm : Nat} {c : Cfg} (h : MapAt w B bm c) {k : Nat} (hk : k < nN c) : ∃ ga ca gr cr, w.cell? ⟨bm, 21, none⟩ = some (.slice (some ⟨ga, 0, none⟩) (nN c) ca) ∧ w.cell? ⟨ga, k, none⟩ = some (.int .i64 (atI c k)) ∧
    w.cell? ⟨bm, 22, none⟩ = some (.slice (some ⟨gr, 0, none⟩) (nN c) cr) ∧ w.cell? ⟨gr, k, none⟩ = some (.int .i64 ((rooms c)[k]?.getD 0)) := by
  obtain ⟨va, vr, hlt, h1, h2, h3⟩ := h
  obtain ⟨aa, ca, rfl, _, hca⟩ := h2.ex
  obtain ⟨ar, cr, rfl, _, hcr⟩ := h3.ex
  obtain ⟨ga, rfl, _, hga⟩ := hca k (.int .i64 (atI c k)) (by simp [atL, List.getElem?_range hk])
  obtain ⟨gr, rfl, _, hgr⟩ := hcr k (.int .i64 ((rooms c)[k]?.getD 0)) (by rw [List.getElem?_map, List.getElem?_eq_getElem hk]; rfl)
  refine ⟨ga, ca, gr, cr, ?_, hga, ?_, hgr⟩
  · have := h1.cell 21; simpa [atL] using this
  · have := h1.cell 22; simpa [nN] using this

theorem single_any (bm : Nat) (at_ : Int) (w : World) :
    Calls Tryz.prog 83 #[.pointer (some ⟨bm, 0, none⟩), .int .i64 at_] w fun e w' => e = .returned (.int .i64 at_) ∧ w = w' := by
  go_enter Tryz.func83, Tryz.ntmps83
  go_wp2
  go_ret
  exact ⟨rfl, rfl⟩

theorem single_nil (at_ : Int) (w : World) :
    Calls Tryz.prog 83 #[.pointer none, .int .i64 at_] w fun e w' => e = .returned (.int .i64 (-1)) ∧ w = w' := by
  go_enter Tryz.func83, Tryz.ntmps83
  go_wp2
  go_ret
  exact ⟨rfl, rfl⟩

theorem mPool_any (bm : Nat) (w : World) : Calls Tryz.prog 56 #[.pointer (some ⟨bm, 0, none⟩)] w fun e w' => e = .returned (.int .i64 4) ∧ w = w' := by go_enter Tryz.func56, Tryz.ntmps56; go_wp2; go_ret; exact ⟨rfl, rfl⟩
theorem mPool_nil (w : World) : Calls Tryz.prog 56 #[.pointer none] w fun e w' => e = .returned (.int .i64 (-1)) ∧ w = w' := by go_enter Tryz.func56, Tryz.ntmps56; go_wp2; go_ret; exact ⟨rfl, rfl⟩

theorem mSpare_any (bm : Nat) (w : World) : Calls Tryz.prog 89 #[.pointer (some ⟨bm, 0, none⟩)] w fun e w' => e = .returned (.int .i64 5) ∧ w = w' := by go_enter Tryz.func89, Tryz.ntmps89; go_wp2; go_ret; exact ⟨rfl, rfl⟩
theorem mSpare_nil (w : World) : Calls Tryz.prog 89 #[.pointer none] w fun e w' => e = .returned (.int .i64 (-1)) ∧ w = w' := by go_enter Tryz.func89, Tryz.ntmps89; go_wp2; go_ret; exact ⟨rfl, rfl⟩

theorem packet_any {B bm : Nat} {c : Cfg} (p j : Int) (w : World) (hm : MapAt w B bm c) (hg : Good c) (hj0 : 0 ≤ j) (hj1 : j ≤ 10) :
    Calls Tryz.prog 66 #[.pointer (some ⟨bm, 0, none⟩), .int .i64 p, .int .i64 j] w fun e w' => e = .returned (.int .i64 (pPack c p j)) ∧ w = w' := by
  obtain ⟨_, _, _, _, c3, _, _, c6, _, _⟩ := hm.cells
  have hb := manyI_bound hg
  have hd := dqs_bound hg
  obtain ⟨hb0, hb1⟩ := hb
  obtain ⟨_, _, hd0, hd1⟩ := hd
  clear hm
  rcases (by omega : p < 1 ∨ (1 ≤ p ∧ manyI c < p) ∨ (1 ≤ p ∧ p ≤ manyI c)) with h | ⟨h, h'⟩ | ⟨h, h'⟩
  · have e : pPack c p j = -1 := by unfold pPack; rw [if_neg (by omega)]
    rw [e]; clear e
    go_enter Tryz.func66, Tryz.ntmps66
    go_wp2
    go_ret
    exact ⟨rfl, rfl⟩
  · have e : pPack c p j = -1 := by unfold pPack; rw [if_neg (by omega)]
    rw [e]; clear e
    go_enter Tryz.func66, Tryz.ntmps66
    go_wp2
    go_ret
    exact ⟨rfl, rfl⟩
  · have e : pPack c p j = pksI c + (p - 1) * 6 + j := by unfold pPack; rw [if_pos ⟨h, h'⟩]
    rw [e]; clear e
    go_enter Tryz.func66, Tryz.ntmps66
    go_wp2
    go_ret
    exact ⟨rfl, rfl⟩

theorem packet_nil (p j : Int) (w : World) :
    Calls Tryz.prog 66 #[.pointer none, .int .i64 p, .int .i64 j] w fun e w' => e = .returned (.int .i64 (-1)) ∧ w = w' := by
  go_enter Tryz.func66, Tryz.ntmps66
  go_wp2
  go_ret
  exact ⟨rfl, rfl⟩

theorem mMany_any {B bm : Nat} {c : Cfg} (p : Int) (w : World) (hm : MapAt w B bm c) (hg : Good c) :
    Calls Tryz.prog 59 #[.pointer (some ⟨bm, 0, none⟩), .int .i64 p] w fun e w' => e = .returned (.int .i64 (pPack c p 0)) ∧ w = w' := by
  go_enter Tryz.func59, Tryz.ntmps59
  go_wp2_with fail
  refine (packet_any _ _ _ hm hg (by omega) (by omega)).mono ?_; rintro e w' ⟨rfl, rfl⟩
  go_wp2_with fail
  go_ret
  exact ⟨rfl, rfl⟩

theorem mMany_nil (p : Int) (w : World) :
    Calls Tryz.prog 59 #[.pointer none, .int .i64 p] w fun e w' => e = .returned (.int .i64 (-1)) ∧ w = w' := by
  go_enter Tryz.func59, Tryz.ntmps59
  go_wp2
  go_ret
  exact ⟨rfl, rfl⟩

theorem mLink_any {B bm : Nat} {c : Cfg} (p : Int) (w : World) (hm : MapAt w B bm c) (hg : Good c) :
    Calls Tryz.prog 35 #[.pointer (some ⟨bm, 0, none⟩), .int .i64 p] w fun e w' => e = .returned (.int .i64 (pPack c p 1)) ∧ w = w' := by
  go_enter Tryz.func35, Tryz.ntmps35
  go_wp2_with fail
  refine (packet_any _ _ _ hm hg (by omega) (by omega)).mono ?_; rintro e w' ⟨rfl, rfl⟩
  go_wp2_with fail
  go_ret
  exact ⟨rfl, rfl⟩

theorem mLink_nil (p : Int) (w : World) :
    Calls Tryz.prog 35 #[.pointer none, .int .i64 p] w fun e w' => e = .returned (.int .i64 (-1)) ∧ w = w' := by
  go_enter Tryz.func35, Tryz.ntmps35
  go_wp2
  go_ret
  exact ⟨rfl, rfl⟩

theorem mTask_any {B bm : Nat} {c : Cfg} (p j : Int) (w : World) (hm : MapAt w B bm c) (hg : Good c) :
    Calls Tryz.prog 60 #[.pointer (some ⟨bm, 0, none⟩), .int .i64 p, .int .i64 j] w fun e w' => e = .returned (.int .i64 (pTask c p j)) ∧ w = w' := by
  rcases (by omega : j < 0 ∨ (0 ≤ j ∧ 4 ≤ j) ∨ (0 ≤ j ∧ j < 4)) with h | ⟨h, h'⟩ | ⟨h, h'⟩
  · rw [show pTask c p j = -1 from if_neg (by omega)]
    go_enter Tryz.func60, Tryz.ntmps60
    go_wp2_with fail
    go_ret
    exact ⟨rfl, rfl⟩
  · rw [show pTask c p j = -1 from if_neg (by omega)]
    go_enter Tryz.func60, Tryz.ntmps60
    go_wp2_with fail
    go_ret
    exact ⟨rfl, rfl⟩
  · rw [show pTask c p j = pPack c p (2 + j) from if_pos ⟨h, h'⟩]
    go_enter Tryz.func60, Tryz.ntmps60
    go_wp2_with fail
    refine (packet_any _ _ _ hm hg (by omega) (by omega)).mono ?_; rintro e w' ⟨rfl, rfl⟩
    go_wp2_with fail
    go_ret
    exact ⟨rfl, rfl⟩

theorem mul_small {x y X Y : Int} (hx0 : 0 ≤ x) (hx1 : x ≤ X) (hy0 : 0 ≤ y) (hy1 : y ≤ Y) : 0 ≤ x * y ∧ x * y ≤ X * Y :=
  ⟨Int.mul_nonneg hx0 hy0, Int.mul_le_mul hx1 hy1 hy0 (by omega)⟩

theorem end_any {B bm : Nat} {c : Cfg} (i j : Int) (w : World) (hm : MapAt w B bm c) (hg : Good c) (hj0 : 0 ≤ j) (hj1 : j ≤ 20) :
    Calls Tryz.prog 49 #[.pointer (some ⟨bm, 0, none⟩), .int .i64 i, .int .i64 j] w fun e w' => e = .returned (.int .i64 (pEnd c i j)) ∧ ∃ n, w' = w.drewN n := by
  obtain ⟨_, _, _, c2, _, _, _, _, _, _⟩ := hm.cells
  obtain ⟨_, _, _, _, _, c14, _, c16, _⟩ := hm.conf
  have hd := dqs_bound hg
  obtain ⟨hd0, hd1, _, _⟩ := hd
  obtain ⟨_, _, _, _, _, hmk, _, hdq, _⟩ := hg
  obtain ⟨hmk0, hmk1⟩ := hmk
  obtain ⟨hdq0, hdq1⟩ := hdq
  clear hm
  rcases (by omega : i < 0 ∨ (0 ≤ i ∧ c.mks ≤ i) ∨ (0 ≤ i ∧ i < c.mks)) with h | ⟨h, h'⟩ | ⟨h, h'⟩
  · rw [show pEnd c i j = -1 from if_neg (by omega)]
    go_enter Tryz.func49, Tryz.ntmps49
    go_wp2
    go_ret
    exact ⟨rfl, 0, rfl⟩
  · rw [show pEnd c i j = -1 from if_neg (by omega)]
    go_enter Tryz.func49, Tryz.ntmps49
    go_wp2
    go_ret
    exact ⟨rfl, 0, rfl⟩
  · have hmul := mul_small (x := i) (X := 4) (y := 2 + c.dq) (Y := 10) h (by omega) (by omega) (by omega)
    rw [show pEnd c i j = dqsI c + i * (2 + c.dq) + j from if_pos ⟨h, h'⟩]
    have x1 : IntKind.i64.wrap (2 + c.dq) = 2 + c.dq := IntWalk.i64_in _ (by omega)
    have x2 : IntKind.i64.wrap (i * (2 + c.dq)) = i * (2 + c.dq) := IntWalk.i64_in _ (by omega)
    have x3 : IntKind.i64.wrap (dqsI c + i * (2 + c.dq)) = dqsI c + i * (2 + c.dq) := IntWalk.i64_in _ (by omega)
    have x4 : IntKind.i64.wrap (dqsI c + i * (2 + c.dq) + j) = dqsI c + i * (2 + c.dq) + j := IntWalk.i64_in _ (by omega)
    clear hmul
    go_enter Tryz.func49, Tryz.ntmps49
    go_wp2_with fail
    go_quiet (fail)
    go_wp2_with fail
    go_ret
    exact ⟨rfl, nq, rfl⟩

theorem end_nil (i j : Int) (w : World) :
    Calls Tryz.prog 49 #[.pointer none, .int .i64 i, .int .i64 j] w fun e w' => e = .returned (.int .i64 (-1)) ∧ w = w' := by
  go_enter Tryz.func49, Tryz.ntmps49
  go_wp2
  go_ret
  exact ⟨rfl, rfl⟩

theorem mTop_any {B bm : Nat} {c : Cfg} (i : Int) (w : World) (hm : MapAt w B bm c) (hg : Good c) :
    Calls Tryz.prog 20 #[.pointer (some ⟨bm, 0, none⟩), .int .i64 i] w fun e w' => e = .returned (.int .i64 (pEnd c i 0)) ∧ ∃ n, w' = w.drewN n := by
  go_enter Tryz.func20, Tryz.ntmps20
  go_wp2_with fail
  refine (end_any _ _ _ hm hg (by omega) (by omega)).mono ?_; rintro e w' ⟨rfl, n, rfl⟩
  go_wp2_with fail
  go_ret
  exact ⟨rfl, n, rfl⟩

theorem mTop_nil (i : Int) (w : World) :
    Calls Tryz.prog 20 #[.pointer none, .int .i64 i] w fun e w' => e = .returned (.int .i64 (-1)) ∧ w = w' := by
  go_enter Tryz.func20, Tryz.ntmps20
  go_wp2
  go_ret
  exact ⟨rfl, rfl⟩

theorem mBottom_any {B bm : Nat} {c : Cfg} (i : Int) (w : World) (hm : MapAt w B bm c) (hg : Good c) :
    Calls Tryz.prog 51 #[.pointer (some ⟨bm, 0, none⟩), .int .i64 i] w fun e w' => e = .returned (.int .i64 (pEnd c i 1)) ∧ ∃ n, w' = w.drewN n := by
  go_enter Tryz.func51, Tryz.ntmps51
  go_wp2_with fail
  refine (end_any _ _ _ hm hg (by omega) (by omega)).mono ?_; rintro e w' ⟨rfl, n, rfl⟩
  go_wp2_with fail
  go_ret
  exact ⟨rfl, n, rfl⟩

theorem mBottom_nil (i : Int) (w : World) :
    Calls Tryz.prog 51 #[.pointer none, .int .i64 i] w fun e w' => e = .returned (.int .i64 (-1)) ∧ w = w' := by
  go_enter Tryz.func51, Tryz.ntmps51
  go_wp2
  go_ret
  exact ⟨rfl, rfl⟩

theorem mEntry_any {B bm : Nat} {c : Cfg} (i j : Int) (w : World) (hm : MapAt w B bm c) (hg : Good c) :
    Calls Tryz.prog 52 #[.pointer (some ⟨bm, 0, none⟩), .int .i64 i, .int .i64 j] w fun e w' => e = .returned (.int .i64 (pEntry c i j)) ∧ ∃ n, w' = w.drewN n := by
  obtain ⟨_, _, _, _, _, _, _, c16, _⟩ := hm.conf
  have hdq := hg.2.2.2.2.2.2.2.1
  obtain ⟨hdq0, hdq1⟩ := hdq
  rcases (by omega : j < 0 ∨ (0 ≤ j ∧ c.dq ≤ j) ∨ (0 ≤ j ∧ j < c.dq)) with h | ⟨h, h'⟩ | ⟨h, h'⟩
  · rw [show pEntry c i j = -1 from if_neg (by omega)]
    go_enter Tryz.func52, Tryz.ntmps52
    go_wp2_with fail
    go_ret
    exact ⟨rfl, 0, rfl⟩
  · rw [show pEntry c i j = -1 from if_neg (by omega)]
    go_enter Tryz.func52, Tryz.ntmps52
    go_wp2_with fail
    go_ret
    exact ⟨rfl, 0, rfl⟩
  · rw [show pEntry c i j = pEnd c i (2 + j) from if_pos ⟨h, h'⟩]
    go_enter Tryz.func52, Tryz.ntmps52
    go_wp2_with fail
    refine (end_any _ _ _ hm hg (by omega) (by omega)).mono ?_; rintro e w' ⟨rfl, n, rfl⟩
    go_wp2_with fail
    go_ret
    exact ⟨rfl, n, rfl⟩

theorem mEntry_nil (i j : Int) (w : World) :
    Calls Tryz.prog 52 #[.pointer none, .int .i64 i, .int .i64 j] w fun e w' => e = .returned (.int .i64 (-1)) ∧ w = w' := by
  go_enter Tryz.func52, Tryz.ntmps52
  go_wp2_with fail
  go_ret
  exact ⟨rfl, rfl⟩

theorem mHead_any {B bm : Nat} {c : Cfg} (k : Int) (w : World) (hm : MapAt w B bm c) (hg : Good c) :
    Calls Tryz.prog 40 #[.pointer (some ⟨bm, 0, none⟩), .int .i64 k] w fun e w' => e = .returned (.int .i64 (pHead c k)) ∧ w = w' := by
  obtain ⟨_, _, c1, _⟩ := hm.cells
  have hh : 7 ≤ headI c ∧ headI c ≤ 10 := by obtain ⟨_, _, _, _, _, _, hu, _⟩ := hg; unfold headI; omega
  obtain ⟨hh0, hh1⟩ := hh
  clear hm hg
  rcases (by omega : k < 0 ∨ (0 ≤ k ∧ 5 ≤ k) ∨ (0 ≤ k ∧ k < 5)) with h | ⟨h, h'⟩ | ⟨h, h'⟩
  · rw [show pHead c k = -1 from if_neg (by omega)]
    go_enter Tryz.func40, Tryz.ntmps40
    go_wp2
    go_ret
    exact ⟨rfl, rfl⟩
  · rw [show pHead c k = -1 from if_neg (by omega)]
    go_enter Tryz.func40, Tryz.ntmps40
    go_wp2
    go_ret
    exact ⟨rfl, rfl⟩
  · rw [show pHead c k = headI c + k from if_pos ⟨h, h'⟩]
    go_enter Tryz.func40, Tryz.ntmps40
    go_wp2
    go_ret
    exact ⟨rfl, rfl⟩

theorem mRoom_any {B bm : Nat} {c : Cfg} (v : Int) (w : World) (hm : MapAt w B bm c) (hg : Good c) :
    Calls Tryz.prog 37 #[.pointer (some ⟨bm, 0, none⟩), .int .i64 v] w fun e w' => e = .returned (.int .i64 (room c v)) ∧ w = w' := by
  obtain ⟨_, _, _, _, _, _, c5, _⟩ := hm.cells
  have hn := nN_bound hg
  obtain ⟨hn0, hn1⟩ := hn
  rcases (by omega : v < 1 ∨ (1 ≤ v ∧ (nN c : Int) < v) ∨ (1 ≤ v ∧ v ≤ nN c)) with h | ⟨h, h'⟩ | ⟨h, h'⟩
  · rw [show room c v = 0 from if_neg (by omega)]
    clear hm hg
    go_enter Tryz.func37, Tryz.ntmps37
    go_wp2
    go_ret
    exact ⟨rfl, rfl⟩
  · rw [show room c v = 0 from if_neg (by omega)]
    clear hm hg
    go_enter Tryz.func37, Tryz.ntmps37
    go_wp2
    go_ret
    exact ⟨rfl, rfl⟩
  · obtain ⟨k, rfl⟩ : ∃ k : Nat, v = k + 1 := ⟨(v - 1).toNat, by omega⟩
    have hk : k < nN c := by omega
    obtain ⟨ga, ca, gr, cr, _, _, c22, cr0⟩ := hm.node hk
    rw [show room c (k + 1) = (rooms c)[k]?.getD 0 from by unfold room; rw [if_pos ⟨h, h'⟩]; simp]
    have h'' : (k : Int) < nN c := by omega
    generalize (rooms c)[k]?.getD 0 = x at *
    clear hm hg
    go_enter Tryz.func37, Tryz.ntmps37
    go_wp2
    go_ret
    exact ⟨rfl, rfl⟩

theorem mRoom_nil (v : Int) (w : World) :
    Calls Tryz.prog 37 #[.pointer none, .int .i64 v] w fun e w' => e = .returned (.int .i64 0) ∧ w = w' := by
  go_enter Tryz.func37, Tryz.ntmps37
  go_wp2
  go_ret
  exact ⟨rfl, rfl⟩

theorem room_is {B bm : Nat} {c : Cfg} {v n : Int} (h : room c v = n) (w : World) (hm : MapAt w B bm c) (hg : Good c) :
    Calls Tryz.prog 37 #[.pointer (some ⟨bm, 0, none⟩), .int .i64 v] w fun e w' => e = .returned (.int .i64 n) ∧ w = w' := h ▸ mRoom_any v w hm hg

theorem node_any {B bm : Nat} {c : Cfg} (v j : Int) (w : World) (hm : MapAt w B bm c) (hg : Good c) (hj0 : 0 ≤ j) (hj1 : j ≤ 40) :
    Calls Tryz.prog 68 #[.pointer (some ⟨bm, 0, none⟩), .int .i64 v, .int .i64 j] w fun e w' => e = .returned (.int .i64 (pNode c v j)) ∧ w = w' := by
  by_cases h : 1 ≤ v ∧ v ≤ nN c
  · obtain ⟨k, rfl⟩ : ∃ k : Nat, v = k + 1 := ⟨(v - 1).toNat, by omega⟩
    have hk : k < nN c := by omega
    obtain ⟨ga, ca, gr, cr, c21, ca0, _, _⟩ := hm.node hk
    have hr : room c (k + 1) = (rooms c)[k]?.getD 0 := by unfold room; rw [if_pos h]; simp
    have hrb := rooms_get hk
    obtain ⟨hrb0, hrb1⟩ := hrb
    rw [show pNode c (k + 1) j = atI c k + j from by unfold pNode; rw [if_pos h]; simp]
    have hab := atI_bound hg k
    obtain ⟨hab0, hab1⟩ := hab
    have hn1 := (nN_bound hg).2
    have HR : Hid (room c (k + 1) = (rooms c)[k]?.getD 0) := hr
    have h0 : ((rooms c)[k]?.getD 0 == 0) = false := by simp; omega
    have h'' : (k : Int) < nN c := by omega
    generalize (rooms c)[k]?.getD 0 = x at *
    generalize atI c k = y at *
    clear hr h
    go_enter Tryz.func68, Tryz.ntmps68
    go_wp2_with fail
    refine (room_is HR.out _ hm hg).mono ?_; rintro e w' ⟨rfl, rfl⟩
    go_wp2_with fail
    go_ret
    exact ⟨rfl, rfl⟩
  · rw [show pNode c v j = -1 from if_neg h]
    have HR : Hid (room c v = 0) := room_zero.2 h
    clear h
    go_enter Tryz.func68, Tryz.ntmps68
    go_wp2_with fail
    refine (room_is HR.out _ hm hg).mono ?_; rintro e w' ⟨rfl, rfl⟩
    go_wp2_with fail
    go_ret
    exact ⟨rfl, rfl⟩

theorem node_nil (v j : Int) (w : World) :
    Calls Tryz.prog 68 #[.pointer none, .int .i64 v, .int .i64 j] w fun e w' => e = .returned (.int .i64 (-1)) ∧ w = w' := by
  go_enter Tryz.func68, Tryz.ntmps68
  go_wp2
  go_ret
  exact ⟨rfl, rfl⟩

theorem mHeader_any {B bm : Nat} {c : Cfg} (v : Int) (w : World) (hm : MapAt w B bm c) (hg : Good c) :
    Calls Tryz.prog 39 #[.pointer (some ⟨bm, 0, none⟩), .int .i64 v] w fun e w' => e = .returned (.int .i64 (pNode c v 0)) ∧ w = w' := by
  go_enter Tryz.func39, Tryz.ntmps39
  go_wp2_with fail
  refine (node_any _ _ _ hm hg (by omega) (by omega)).mono ?_; rintro e w' ⟨rfl, rfl⟩
  go_wp2_with fail
  go_ret
  exact ⟨rfl, rfl⟩

theorem mState_any {B bm : Nat} {c : Cfg} (v : Int) (w : World) (hm : MapAt w B bm c) (hg : Good c) :
    Calls Tryz.prog 38 #[.pointer (some ⟨bm, 0, none⟩), .int .i64 v] w fun e w' => e = .returned (.int .i64 (pNode c v 1)) ∧ w = w' := by
  go_enter Tryz.func38, Tryz.ntmps38
  go_wp2_with fail
  refine (node_any _ _ _ hm hg (by omega) (by omega)).mono ?_; rintro e w' ⟨rfl, rfl⟩
  go_wp2_with fail
  go_ret
  exact ⟨rfl, rfl⟩

theorem mNext_any {B bm : Nat} {c : Cfg} (v : Int) (w : World) (hm : MapAt w B bm c) (hg : Good c) :
    Calls Tryz.prog 42 #[.pointer (some ⟨bm, 0, none⟩), .int .i64 v] w fun e w' => e = .returned (.int .i64 (pNode c v 3)) ∧ w = w' := by
  go_enter Tryz.func42, Tryz.ntmps42
  go_wp2_with fail
  refine (node_any _ _ _ hm hg (by omega) (by omega)).mono ?_; rintro e w' ⟨rfl, rfl⟩
  go_wp2_with fail
  go_ret
  exact ⟨rfl, rfl⟩

theorem mNodes_any {B bm : Nat} {c : Cfg} (w : World) (hm : MapAt w B bm c) :
    Calls Tryz.prog 67 #[.pointer (some ⟨bm, 0, none⟩)] w fun e w' => e = .returned (.int .i64 ((nN c : Int))) ∧ w = w' := by
  obtain ⟨_, _, _, _, _, _, c5, c6, _, c8⟩ := hm.cells
  go_enter Tryz.func67, Tryz.ntmps67
  go_wp2
  go_ret
  exact ⟨rfl, rfl⟩

theorem mPackets_any {B bm : Nat} {c : Cfg} (w : World) (hm : MapAt w B bm c) :
    Calls Tryz.prog 57 #[.pointer (some ⟨bm, 0, none⟩)] w fun e w' => e = .returned (.int .i64 (manyI c)) ∧ w = w' := by
  obtain ⟨_, _, _, _, _, _, c5, c6, _, c8⟩ := hm.cells
  go_enter Tryz.func57, Tryz.ntmps57
  go_wp2
  go_ret
  exact ⟨rfl, rfl⟩

theorem mNodes_nil (w : World) :
    Calls Tryz.prog 67 #[.pointer none] w fun e w' => e = .returned (.int .i64 0) ∧ w = w' := by
  go_enter Tryz.func67, Tryz.ntmps67
  go_wp2
  go_ret
  exact ⟨rfl, rfl⟩

theorem mCommon_any {B bm : Nat} {c : Cfg} (w : World) (hm : MapAt w B bm c) :
    Calls Tryz.prog 36 #[.pointer (some ⟨bm, 0, none⟩)] w fun e w' => e = .returned (.int .i64 (nN c : Int)) ∧ w = w' := by
  go_enter Tryz.func36, Tryz.ntmps36
  go_wp2_with fail
  refine (mNodes_any _ hm).mono ?_; rintro e w' ⟨rfl, rfl⟩
  go_wp2_with fail
  go_ret
  exact ⟨rfl, rfl⟩

theorem mConfig_any {B bm : Nat} {c : Cfg} (w : World) (hm : MapAt w B bm c) :
    Calls Tryz.prog 53 #[.pointer (some ⟨bm, 0, none⟩)] w fun e w' => e = .returned (.agg #[.int .i64 c.c0, .int .i64 c.c1, .int .i64 c.c2, .int .i64 c.c3, .int .i64 c.c4, .int .i64 c.mks, .int .i64 c.mus, .int .i64 c.dq, .int .i64 c.ch, .int .i64 c.bu, .int .i64 c.ro, .int .i64 c.sw]) ∧ Kept w w' := by
  obtain ⟨d0, d1, d2, d3, d4, d5, d6, d7, d8, d9, d10, d11⟩ := hm.conf
  have hlt := hm.lt
  go_enter Tryz.func53, Tryz.ntmps53
  go_wp2
  exact bodyPost_ret (v := .agg #[.int .i64 c.c0, .int .i64 c.c1, .int .i64 c.c2, .int .i64 c.c3, .int .i64 c.c4, .int .i64 c.mks, .int .i64 c.mus, .int .i64 c.dq, .int .i64 c.ch, .int .i64 c.bu, .int .i64 c.ro, .int .i64 c.sw]) (by simp [results, Tryz.results53, go_sem]) rfl ⟨rfl, (Below.refl _ _).alloc (Nat.le_refl _) _⟩

end Go.Proofs.YtfbcadknimfhjaaGreat

namespace Go.Proofs.YtfbcadknimfhjaaGreat
open Go.RowKit

/-- A node's class, by the sums. -/
def classI (c : Cfg) (v : Int) : Int := if v < 1 then -1 else if v ≤ c.c0 then 0 else if v - c.c0 ≤ c.c1 then 1 else if v - c.c0 - c.c1 ≤ c.c2 then 2 else if v - c.c0 - c.c1 - c.c2 ≤ c.c3 then 3 else if v - c.c0 - c.c1 - c.c2 - c.c3 ≤ c.c4 then 4 else -1

theorem clsI_eq {c : Cfg} (h : Good c) (v : Int) : clsI c v = classI c v := by
  have hn := nN_eq h
  obtain ⟨h0, h1, h2, h3, h4, _⟩ := h
  unfold clsI
  split
  · next hv =>
    simp only [clsL, List.getElem?_append, List.getElem?_replicate, List.length_replicate]
    unfold classI
    repeat' split
    all_goals first | rfl | omega
  · next hv =>
    unfold classI
    repeat' split
    all_goals first | rfl | omega

theorem class_any (c : Cfg) (v : Int) (w : World) (hg : Good c) (h63 : v ≤ 9223372036854775807) :
    Calls Tryz.prog 30 #[.agg #[.int .i64 c.c0, .int .i64 c.c1, .int .i64 c.c2, .int .i64 c.c3, .int .i64 c.c4], .int .i64 v] w fun e w' => e = .returned (.int .i64 (clsI c v)) ∧ Kept w w' := by
  rw [clsI_eq hg]
  have i0 : ∀ W, (Instr.index 22 (.agg #[.int .i64 c.c0, .int .i64 c.c1, .int .i64 c.c2, .int .i64 c.c3, .int .i64 c.c4]) (.int .i64 0)).run Tryz.prog W = .ok (.int .i64 c.c0) W := fun W => index5_0 _ _ _ _ _ W
  have i1 : ∀ W, (Instr.index 22 (.agg #[.int .i64 c.c0, .int .i64 c.c1, .int .i64 c.c2, .int .i64 c.c3, .int .i64 c.c4]) (.int .i64 1)).run Tryz.prog W = .ok (.int .i64 c.c1) W := fun W => index5_1 _ _ _ _ _ W
  have i2 : ∀ W, (Instr.index 22 (.agg #[.int .i64 c.c0, .int .i64 c.c1, .int .i64 c.c2, .int .i64 c.c3, .int .i64 c.c4]) (.int .i64 2)).run Tryz.prog W = .ok (.int .i64 c.c2) W := fun W => index5_2 _ _ _ _ _ W
  have i3 : ∀ W, (Instr.index 22 (.agg #[.int .i64 c.c0, .int .i64 c.c1, .int .i64 c.c2, .int .i64 c.c3, .int .i64 c.c4]) (.int .i64 3)).run Tryz.prog W = .ok (.int .i64 c.c3) W := fun W => index5_3 _ _ _ _ _ W
  have i4 : ∀ W, (Instr.index 22 (.agg #[.int .i64 c.c0, .int .i64 c.c1, .int .i64 c.c2, .int .i64 c.c3, .int .i64 c.c4]) (.int .i64 4)).run Tryz.prog W = .ok (.int .i64 c.c4) W := fun W => index5_4 _ _ _ _ _ W
  obtain ⟨⟨h0, h0'⟩, ⟨h1, h1'⟩, ⟨h2, h2'⟩, ⟨h3, h3'⟩, ⟨h4, h4'⟩, _⟩ := hg
  have B : ∀ n W, 0 ≤ n → n ≤ 12 → Calls Tryz.prog 63 #[.int .i64 n] W fun e w' => e = .returned (.int .i64 n) ∧ W = w' := by
    intro n W hn hn'
    have := bound_any n W
    rwa [show clampI 0 n 12 = n from by unfold clampI; omega] at this
  go_enter Tryz.func30, Tryz.ntmps30
  by_cases hv : v < 1
  · go_wp2_with fail
    go_ret
    exact ⟨ret_int (by unfold classI; rw [if_pos hv]), (Below.refl _ _).alloc (Nat.le_refl _) _⟩
  have hv1 : 1 ≤ v := by omega
  by_cases a0 : v ≤ c.c0
  · go_wp2_with fail
    refine wp_loop_rounds 6 ?_
    iterate 1 (rw [rounds_succ]; go_wp2_with (go_at_call 63; refine (B _ _ (by assumption) (by assumption)).mono ?_; rintro r w1 ⟨rfl, rfl⟩))
    go_ret
    exact ⟨ret_int (by unfold classI; repeat' split
                       all_goals first | rfl | omega), (Below.refl _ _).alloc (Nat.le_refl _) _⟩
  by_cases a1 : v - c.c0 ≤ c.c1
  · go_wp2_with fail
    refine wp_loop_rounds 6 ?_
    iterate 2 (rw [rounds_succ]; go_wp2_with (go_at_call 63; refine (B _ _ (by assumption) (by assumption)).mono ?_; rintro r w1 ⟨rfl, rfl⟩))
    go_ret
    exact ⟨ret_int (by unfold classI; repeat' split
                       all_goals first | rfl | omega), (Below.refl _ _).alloc (Nat.le_refl _) _⟩
  by_cases a2 : v - c.c0 - c.c1 ≤ c.c2
  · go_wp2_with fail
    refine wp_loop_rounds 6 ?_
    iterate 3 (rw [rounds_succ]; go_wp2_with (go_at_call 63; refine (B _ _ (by assumption) (by assumption)).mono ?_; rintro r w1 ⟨rfl, rfl⟩))
    go_ret
    exact ⟨ret_int (by unfold classI; repeat' split
                       all_goals first | rfl | omega), (Below.refl _ _).alloc (Nat.le_refl _) _⟩
  by_cases a3 : v - c.c0 - c.c1 - c.c2 ≤ c.c3
  · go_wp2_with fail
    refine wp_loop_rounds 6 ?_
    iterate 4 (rw [rounds_succ]; go_wp2_with (go_at_call 63; refine (B _ _ (by assumption) (by assumption)).mono ?_; rintro r w1 ⟨rfl, rfl⟩))
    go_ret
    exact ⟨ret_int (by unfold classI; repeat' split
                       all_goals first | rfl | omega), (Below.refl _ _).alloc (Nat.le_refl _) _⟩
  by_cases a4 : v - c.c0 - c.c1 - c.c2 - c.c3 ≤ c.c4
  · go_wp2_with fail
    refine wp_loop_rounds 6 ?_
    iterate 5 (rw [rounds_succ]; go_wp2_with (go_at_call 63; refine (B _ _ (by assumption) (by assumption)).mono ?_; rintro r w1 ⟨rfl, rfl⟩))
    go_ret
    exact ⟨ret_int (by unfold classI; repeat' split
                       all_goals first | rfl | omega), (Below.refl _ _).alloc (Nat.le_refl _) _⟩
  go_wp2_with fail
  refine wp_loop_rounds 6 ?_
  iterate 6 (rw [rounds_succ]; go_wp2_with (go_at_call 63; refine (B _ _ (by assumption) (by assumption)).mono ?_; rintro r w1 ⟨rfl, rfl⟩))
  go_ret
  exact ⟨ret_int (by unfold classI; repeat' split
                     all_goals first | rfl | omega), (Below.refl _ _).alloc (Nat.le_refl _) _⟩

end Go.Proofs.YtfbcadknimfhjaaGreat
