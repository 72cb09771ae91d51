/- A configuration's map is made: walked. -/
import Derived.Test.YtfbcadknimfhjaaGreatPkB
import Derived.Deep.RegionLaw
namespace Go.Proofs.YtfbcadknimfhjaaGreat
open Go.RowKit

theorem ownsRow_kept {w w' : World} {base : Nat} {e : TypeId} {size : Nat} {v : Value} {n : Nat} {xs : List Value} (h : w.ownsRow base e size v n xs) (k : Kept w w') : w'.ownsRow base e size v n xs := by
  refine ⟨h.1, ?_⟩
  rcases h.2 with h0 | ⟨g, cap, cur, hv, hb, hh, hr⟩
  · exact .inl h0
  · exact .inr ⟨g, cap, cur, hv, hb, by rw [k.block g (lt_of_block hh)]; exact hh, hr⟩

set_option maxRecDepth 8000 in
set_option maxHeartbeats 3200000 in
theorem new_bad (c : Cfg) (w : World) (hg : ¬ Good c) :
    Calls Tryz.prog 6 #[.agg #[.int .i64 c.c0, .int .i64 c.c1, .int .i64 c.c2, .int .i64 c.c3, .int .i64 c.c4, .int .i64 c.mks, .int .i64 c.mus, .int .i64 c.dq, .int .i64 c.ch, .int .i64 c.bu, .int .i64 c.ro, .int .i64 c.sw]] w fun e w' => e = .returned (.tuple #[.pointer none, .int .i64 21]) ∧ Kept w w' := by
  have he : errI c = 21 := if_neg hg
  have HE : Hid (errI c = 21) := he
  clear he hg
  go_enter Tryz.func6, Tryz.ntmps6
  go_wp2_with fail
  refine (check_any c _).mono ?_; rintro e w1 ⟨rfl, hk⟩
  rw [HE.out]
  go_wp2_with fail
  go_ret2
  exact ⟨rfl, ((Below.refl _ _).alloc (Nat.le_refl _) _).trans (hk.mono (by simp))⟩

/-- How many packets there are when k nodes have been counted. -/
def manyTo (c : Cfg) (k : Nat) : Int := nN c + 2 * c.mks + c.mus + sumI (((rooms c).map fun r => (r + c.ch - 1) / c.ch).take k)

theorem keepCell {w : World} {a b : Addr} {u v : Value} (h : w.cell? a = some v) (hne : b ≠ a) : (w.setCell b u).drew.cell? a = some v := by
  have := World.cell?_setCell_other (w := w) (a := b) (b := a) (v := u) hne
  exact this.trans h

theorem Blk.grown {w w' : World} {b : Nat} {t : TypeId} {l : List Value} {row : Option Nat} (hb : Blk w b t l) (hg : w.grownBy w' row) (hr : row ≠ some b) : Blk w' b t l := by
  unfold Blk; rw [hg.block b hb.lt (fun e => hr e.symm)]; exact hb

theorem rooms_cls {c : Cfg} {k : Nat} (h : k < nN c) : slotsI (clsI c ((k : Int) + 1)) = (rooms c)[k]?.getD 0 := by
  unfold clsI
  rw [if_pos (by omega)]
  have hk : k < (clsL c).length := by rw [nN_cls]; exact h
  rw [show ((k : Int) + 1 - 1).toNat = k from by omega, List.getElem?_eq_getElem hk]
  simp [rooms, List.getElem?_eq_getElem hk]

theorem manyTo_succ {c : Cfg} {k : Nat} (h : k < nN c) : manyTo c (k + 1) = manyTo c k + ((rooms c)[k]?.getD 0 + c.ch - 1) / c.ch := by
  unfold manyTo
  rw [sumI_take_succ _ _ (by simpa [nN] using h), List.getElem?_map, List.getElem?_eq_getElem h]
  simp; omega

theorem manyTo_bound {c : Cfg} (h : Good c) (k : Nat) : 4 ≤ manyTo c k ∧ manyTo c k ≤ 2000 := by
  have hn := nN_bound h
  have hp := piece_bound h k
  obtain ⟨_, _, _, _, _, hm, hu, _⟩ := h
  unfold manyTo
  omega

theorem rooms_take {c : Cfg} {k : Nat} (h : k < nN c) : ((rooms c).map (Value.int .i64)).take (k + 1) = ((rooms c).map (Value.int .i64)).take k ++ [.int .i64 ((rooms c)[k]?.getD 0)] := by
  rw [List.take_add_one, List.getElem?_map, List.getElem?_eq_getElem h]; rfl

theorem info_int : (Tryz.prog.info? 3).map (fun i => (i.zero, i.size, i.bytes)) = some (some (.int .i64 0), 1, 8) := by kernel_rfl

set_option maxRecDepth 8000 in
set_option maxHeartbeats 3200000 in
theorem new_good (c : Cfg) (w : World) (hg : Good c) :
    Calls Tryz.prog 6 #[.agg #[.int .i64 c.c0, .int .i64 c.c1, .int .i64 c.c2, .int .i64 c.c3, .int .i64 c.c4, .int .i64 c.mks, .int .i64 c.mus, .int .i64 c.dq, .int .i64 c.ch, .int .i64 c.bu, .int .i64 c.ro, .int .i64 c.sw]] w fun e w' => ∃ bm, e = .returned (.tuple #[.pointer (some ⟨bm, 0, none⟩), .int .i64 0]) ∧ MapAt w' w'.heap.size bm c ∧ Kept w w' := by
  have HE : Hid (errI c = 0) := if_pos hg
  have HN : Hid (clampI 0 c.c0 12 + clampI 0 c.c1 12 + clampI 0 c.c2 12 + clampI 0 c.c3 12 + clampI 0 c.c4 12 = nN c) := nodesI_eq hg
  have hn := nN_bound hg
  obtain ⟨hn0, hn1⟩ := hn
  have Hg : Hid (Good c) := hg
  obtain ⟨_, _, _, _, _, ⟨hm0, hm1⟩, ⟨hu0, hu1⟩, ⟨hd0, hd1⟩, ⟨hc0, hc1⟩, _, _, ⟨hs0, hs1⟩, _⟩ := hg
  obtain ⟨i0, hi, hz0, hz1, hz2⟩ := info_parts info_int
  go_enter Tryz.func6, Tryz.ntmps6
  go_wp2_with fail
  refine (check_any c _).mono ?_; rintro e w1 ⟨rfl, hk1⟩
  rw [HE.out]
  have bc : Blk (w.alloc (.cells #[.int .i64 c.c0, .int .i64 c.c1, .int .i64 c.c2, .int .i64 c.c3, .int .i64 c.c4, .int .i64 c.mks, .int .i64 c.mus, .int .i64 c.dq, .int .i64 c.ch, .int .i64 c.bu, .int .i64 c.ro, .int .i64 c.sw] 24)) w.heap.size 24 [.int .i64 c.c0, .int .i64 c.c1, .int .i64 c.c2, .int .i64 c.c3, .int .i64 c.c4, .int .i64 c.mks, .int .i64 c.mus, .int .i64 c.dq, .int .i64 c.ch, .int .i64 c.bu, .int .i64 c.ro, .int .i64 c.sw] := Blk.new _ _ _
  replace bc := hk1.blk bc
  have hk01 : Kept w w1 := ((Below.refl _ _).alloc (Nat.le_refl _) _).trans (hk1.mono (by simp))
  clear hk1
  have q0 := bc.cell 0
  have q1 := bc.cell 1
  have q2 := bc.cell 2
  have q3 := bc.cell 3
  have q4 := bc.cell 4
  have q5 := bc.cell 5
  have q6 := bc.cell 6
  have q7 := bc.cell 7
  have q8 := bc.cell 8
  have q9 := bc.cell 9
  have q10 := bc.cell 10
  have q11 := bc.cell 11
  have bcx : Blk (w1.alloc (.cells #[.int .i64 0, .int .i64 0, .int .i64 0, .int .i64 0, .int .i64 0, .int .i64 0, .int .i64 0, .int .i64 0, .int .i64 0, .int .i64 c.c0, .int .i64 c.c1, .int .i64 c.c2, .int .i64 c.c3, .int .i64 c.c4, .int .i64 c.mks, .int .i64 c.mus, .int .i64 c.dq, .int .i64 c.ch, .int .i64 c.bu, .int .i64 c.ro, .int .i64 c.sw, .slice none 0 0, .slice none 0 0] 81)) w.heap.size 24 [.int .i64 c.c0, .int .i64 c.c1, .int .i64 c.c2, .int .i64 c.c3, .int .i64 c.c4, .int .i64 c.mks, .int .i64 c.mus, .int .i64 c.dq, .int .i64 c.ch, .int .i64 c.bu, .int .i64 c.ro, .int .i64 c.sw] := bc.alloc _
  have bm : Blk (w1.alloc (.cells #[.int .i64 0, .int .i64 0, .int .i64 0, .int .i64 0, .int .i64 0, .int .i64 0, .int .i64 0, .int .i64 0, .int .i64 0, .int .i64 c.c0, .int .i64 c.c1, .int .i64 c.c2, .int .i64 c.c3, .int .i64 c.c4, .int .i64 c.mks, .int .i64 c.mus, .int .i64 c.dq, .int .i64 c.ch, .int .i64 c.bu, .int .i64 c.ro, .int .i64 c.sw, .slice none 0 0, .slice none 0 0] 81)) w1.heap.size 81 [.int .i64 0, .int .i64 0, .int .i64 0, .int .i64 0, .int .i64 0, .int .i64 0, .int .i64 0, .int .i64 0, .int .i64 0, .int .i64 c.c0, .int .i64 c.c1, .int .i64 c.c2, .int .i64 c.c3, .int .i64 c.c4, .int .i64 c.mks, .int .i64 c.mus, .int .i64 c.dq, .int .i64 c.ch, .int .i64 c.bu, .int .i64 c.ro, .int .i64 c.sw, .slice none 0 0, .slice none 0 0] := Blk.new _ _ _
  have p0 := bcx.cell 0
  have p1 := bcx.cell 1
  have p2 := bcx.cell 2
  have p3 := bcx.cell 3
  have p4 := bcx.cell 4
  simp only [List.getElem?_cons_zero, List.getElem?_cons_succ] at q0 q1 q2 q3 q4 q5 q6 q7 q8 q9 q10 q11 p0 p1 p2 p3 p4
  have ne1 : w.heap.size ≠ w1.heap.size := by have := bc.lt; omega
  go_wp2_with fail
  refine (nodes_any _ _ _ _ _ _).mono ?_; rintro e w3 ⟨rfl, hk3⟩
  rw [HN.out]
  replace bcx := hk3.blk bcx
  replace bm := hk3.blk bm
  have hk : Kept w w3 := ((hk01.alloc hk01.size _).trans (hk3.mono (by have := hk01.size; simp; omega)))
  have hBMw : w.heap.size < w1.heap.size := by have := bc.lt; omega
  clear hk3 p0 p1 p2 p3 p4 q0 q1 q2 q3 q4 q5 q6 q7 q8 q9 q10 q11 bc hk01 ne1
  generalize hBM : w1.heap.size = BM at *
  clear hBM w1
  have ne1 : w.heap.size ≠ BM := by omega
  have ne2 : ¬ w.heap.size = BM := by omega
  have bc := bcx
  clear bcx
  have f5 := bm.free 5
  have g5 := bm.cell 5
  simp only [List.getElem?_cons_zero, List.getElem?_cons_succ] at g5
  go_wp2_with fail
  clear g5 f5
  replace bm : Blk (w3.setCell ⟨BM, 5, none⟩ (.int .i64 (nN c))) BM 81 [.int .i64 0, .int .i64 0, .int .i64 0, .int .i64 0, .int .i64 0, .int .i64 (nN c), .int .i64 0, .int .i64 0, .int .i64 0, .int .i64 c.c0, .int .i64 c.c1, .int .i64 c.c2, .int .i64 c.c3, .int .i64 c.c4, .int .i64 c.mks, .int .i64 c.mus, .int .i64 c.dq, .int .i64 c.ch, .int .i64 c.bu, .int .i64 c.ro, .int .i64 c.sw, .slice none 0 0, .slice none 0 0] := bm.set' 5 (.int .i64 (nN c)) rfl
  replace bc := bc.setOther ⟨BM, 5, none⟩ (.int .i64 (nN c)) ne2
  replace hk := Below.setCell hk (p := ⟨BM, 5, none⟩) (by simp; omega) (.int .i64 (nN c))
  generalize w3.setCell ⟨BM, 5, none⟩ (.int .i64 (nN c)) = w4 at *
  clear w3
  have f6 := bm.free 6
  have g5 := bm.cell 5
  have g6 := bm.cell 6
  have c5 := bc.cell 5
  have c6 := bc.cell 6
  simp only [List.getElem?_cons_zero, List.getElem?_cons_succ] at g5 g6 c5 c6
  have x17 : IntKind.i64.wrap (2 * c.mks) = 2 * c.mks := IntWalk.i64_in _ (by omega)
  have x18 : IntKind.i64.wrap (nN c + 2 * c.mks) = nN c + 2 * c.mks := IntWalk.i64_in _ (by omega)
  have x19 : IntKind.i64.wrap (nN c + 2 * c.mks + c.mus) = nN c + 2 * c.mks + c.mus := IntWalk.i64_in _ (by omega)
  go_region_held3 (fun w' => w'.cell? ⟨BM, 5, none⟩ = some (.int .i64 (nN c)) ∧ w'.cell? ⟨w.heap.size, 5, none⟩ = some (.int .i64 (c.mks)) ∧ w'.cell? ⟨w.heap.size, 6, none⟩ = some (.int .i64 (c.mus))) (first | exact ⟨g5, c5, c6⟩ | exact ⟨keepCell g5 (by simp []), keepCell c5 (by simp []), keepCell c6 (by simp [])⟩) (fail)
  go_wp2_with fail
  clear g5 g6 c5 c6 f6
  replace bm : Blk (w4.setCell ⟨BM, 6, none⟩ (.int .i64 (nN c + 2 * c.mks + c.mus))) BM 81 [.int .i64 0, .int .i64 0, .int .i64 0, .int .i64 0, .int .i64 0, .int .i64 (nN c), .int .i64 (nN c + 2 * c.mks + c.mus), .int .i64 0, .int .i64 0, .int .i64 c.c0, .int .i64 c.c1, .int .i64 c.c2, .int .i64 c.c3, .int .i64 c.c4, .int .i64 c.mks, .int .i64 c.mus, .int .i64 c.dq, .int .i64 c.ch, .int .i64 c.bu, .int .i64 c.ro, .int .i64 c.sw, .slice none 0 0, .slice none 0 0] := bm.set' 6 (.int .i64 (nN c + 2 * c.mks + c.mus)) rfl
  replace bc := bc.setOther ⟨BM, 6, none⟩ (.int .i64 (nN c + 2 * c.mks + c.mus)) ne2
  replace hk := Below.setCell hk (p := ⟨BM, 6, none⟩) (by simp; omega) (.int .i64 (nN c + 2 * c.mks + c.mus))
  replace bm := bm.drew
  replace bc := bc.drew
  replace hk := Below.drew hk
  generalize (w4.setCell ⟨BM, 6, none⟩ (.int .i64 (nN c + 2 * c.mks + c.mus))).drew = w5 at *
  clear w4
  have hm0' : manyTo c 0 = nN c + 2 * c.mks + c.mus := by unfold manyTo; simp [sumI]
  rw [← hm0'] at bm
  have own : w5.ownsRow (BM + 1) 3 1 (.slice none 0 0) 0 (((rooms c).map (Value.int .i64)).take 0) := World.ownsRow_nil _ _ _ _
  have hBM1 : BM + 1 ≤ w5.heap.size := bm.lt
  go_wp2_with fail
  go_loopw [6, 7] (fun v _ wr => ∃ (k : Nat) (vr : Value), k ≤ nN c ∧ v = .int .i64 ((k : Int) + 1) ∧ Blk wr BM 81 [.int .i64 0, .int .i64 0, .int .i64 0, .int .i64 0, .int .i64 0, .int .i64 (nN c), .int .i64 (manyTo c k), .int .i64 0, .int .i64 0, .int .i64 c.c0, .int .i64 c.c1, .int .i64 c.c2, .int .i64 c.c3, .int .i64 c.c4, .int .i64 c.mks, .int .i64 c.mus, .int .i64 c.dq, .int .i64 c.ch, .int .i64 c.bu, .int .i64 c.ro, .int .i64 c.sw, .slice none 0 0, vr] ∧ wr.ownsRow (BM + 1) 3 1 vr k (((rooms c).map (Value.int .i64)).take k) ∧ Blk wr w.heap.size 24 [.int .i64 c.c0, .int .i64 c.c1, .int .i64 c.c2, .int .i64 c.c3, .int .i64 c.c4, .int .i64 c.mks, .int .i64 c.mus, .int .i64 c.dq, .int .i64 c.ch, .int .i64 c.bu, .int .i64 c.ro, .int .i64 c.sw] ∧ Kept w wr) (fun v _ _ => nN c + 1 - (intOf v).toNat)
  case atStart => exact ⟨0, _, by omega, rfl, bm, own, bc, hk⟩
  case round =>
    clear bm own bc hk hBM1 hm0'
    obtain ⟨k, vr, hkn, rfl, bm, own, bc, hk⟩ := hrel
    have g5 := bm.cell 5
    simp only [List.getElem?_cons_zero, List.getElem?_cons_succ] at g5
    by_cases hlt : (k : Int) + 1 ≤ nN c
    · have hlt' : k < nN c := by omega
      have HR : Hid (slotsI (clsI c ((k : Int) + 1)) = (rooms c)[k]?.getD 0) := rooms_cls hlt'
      have HT : Hid (((rooms c).map (Value.int .i64)).take (k + 1) = ((rooms c).map (Value.int .i64)).take k ++ [.int .i64 ((rooms c)[k]?.getD 0)]) := rooms_take hlt'
      have hrb := rooms_get hlt'
      obtain ⟨hr0, hr1⟩ := hrb
      have HM : Hid (manyTo c (k + 1) = manyTo c k + ((rooms c)[k]?.getD 0 + c.ch - 1) / c.ch) := manyTo_succ hlt'
      have hmb := manyTo_bound Hg.out k
      obtain ⟨hmb0, hmb1⟩ := hmb
      generalize (rooms c)[k]?.getD 0 = r at *
      generalize hM : manyTo c k = M at *
      have c0 := bc.cell 0
      have c1 := bc.cell 1
      have c2 := bc.cell 2
      have c3 := bc.cell 3
      have c4 := bc.cell 4
      simp only [List.getElem?_cons_zero, List.getElem?_cons_succ] at c0 c1 c2 c3 c4
      go_wp2_with fail
      refine (class_any c _ _ Hg.out (by omega)).mono ?_; rintro e w1 ⟨rfl, h1⟩
      clear c0 c1 c2 c3 c4 g5
      replace bm := h1.blk bm
      replace bc := h1.blk bc
      replace own := ownsRow_kept own h1
      replace hk := hk.trans' h1
      clear h1
      go_wp2_with fail
      refine (slots_any _ _).mono ?_; rintro e w2 ⟨rfl, rfl⟩
      rw [HR.out]
      have g22 := bm.cell 22
      simp only [List.getElem?_cons_zero, List.getElem?_cons_succ] at g22
      have hBM1 := bm.lt
      go_wp2_with (at_builtin; refine wpList_append_lies _ rfl _ _ 50 rfl (BM + 1) 3 i0 (.int .i64 0) 1 8 Tryz.underlying50 hi hz0 hz1 hz2 rfl (by decide) _ _ _ rfl (own.alloc _) ⟨w1.heap.size, 0, none⟩ 1 1 [.int .i64 r] rfl rfl ?c1 ?c2 (by omega) ?c3 ?c4 ?c5 _ rfl ?_)
      case c1 => intro j u hj; match j, hj with | 0, hj => simp at hj; subst hj; simp [Addr.add]
      case c2 => intro u hu; simp at hu; subst hu; rfl
      case c3 => unfold maxLen; omega
      case c4 => omega
      case c5 => simp; omega
      intro gb cap w2 own2 hgrow _ _
      have hrow : ∀ g, Value.ownBlock vr = some g → BM + 1 ≤ g := fun g hg => (ownsRow_base own g hg).1
      replace bm := Blk.grown (bm.alloc _) hgrow (fun e => by have := hrow _ e; omega)
      replace bc := Blk.grown (bc.alloc _) hgrow (fun e => by have := hrow _ e; omega)
      replace hk := (hk.alloc hk.size _).grown hgrow (by have := hk.size; simp; omega) (fun g hg => by have := hrow g hg; omega)
      clear hgrow g22 hrow hBM1 own
      rw [← HT.out] at own2
      have f22 := bm.free 22
      have g22 := bm.cell 22
      have g5 := bm.cell 5
      simp only [List.getElem?_cons_zero, List.getElem?_cons_succ] at g22 g5
      go_wp2_with fail
      clear g22 f22 g5
      have own3 := ownsRow_setCell_below own2 (a := ⟨BM, 22, none⟩) (by simp) (.slice (some ⟨gb, 0, none⟩) (k + 1) cap)
      clear own2
      replace bm : Blk (w2.setCell ⟨BM, 22, none⟩ (.slice (some ⟨gb, 0, none⟩) (k + 1) cap)) BM 81 [.int .i64 0, .int .i64 0, .int .i64 0, .int .i64 0, .int .i64 0, .int .i64 (nN c), .int .i64 M, .int .i64 0, .int .i64 0, .int .i64 c.c0, .int .i64 c.c1, .int .i64 c.c2, .int .i64 c.c3, .int .i64 c.c4, .int .i64 c.mks, .int .i64 c.mus, .int .i64 c.dq, .int .i64 c.ch, .int .i64 c.bu, .int .i64 c.ro, .int .i64 c.sw, .slice none 0 0, .slice (some ⟨gb, 0, none⟩) (k + 1) cap] := bm.set' 22 (.slice (some ⟨gb, 0, none⟩) (k + 1) cap) rfl
      replace bc := bc.setOther ⟨BM, 22, none⟩ (.slice (some ⟨gb, 0, none⟩) (k + 1) cap) ne2
      replace hk := Below.setCell hk (p := ⟨BM, 22, none⟩) (by simp; omega) (.slice (some ⟨gb, 0, none⟩) (k + 1) cap)
      generalize w2.setCell ⟨BM, 22, none⟩ (.slice (some ⟨gb, 0, none⟩) (k + 1) cap) = w4 at *
      have f6 := bm.free 6
      have g6 := bm.cell 6
      have c8 := bc.cell 8
      simp only [List.getElem?_cons_zero, List.getElem?_cons_succ] at g6 c8
      have y1 : IntKind.i64.wrap (r + c.ch) = r + c.ch := IntWalk.i64_in _ (by omega)
      have y2 : IntKind.i64.wrap (r + c.ch - 1) = r + c.ch - 1 := IntWalk.i64_in _ (by omega)
      have y0 : ¬ c.ch = 0 := by omega
      have yd : (r + c.ch - 1).tdiv c.ch = (r + c.ch - 1) / c.ch := Int.tdiv_eq_ediv_of_nonneg (by omega)
      have yb : 0 ≤ (r + c.ch - 1) / c.ch ∧ (r + c.ch - 1) / c.ch ≤ 40 := by
        refine ⟨Int.ediv_nonneg (by omega) (by omega), ?_⟩
        have : (r + c.ch - 1) / c.ch < 41 := by
          rw [Int.ediv_lt_iff_lt_mul (by omega)]; omega
        omega
      obtain ⟨yb0, yb1⟩ := yb
      have y3 : IntKind.i64.wrap ((r + c.ch - 1) / c.ch) = (r + c.ch - 1) / c.ch := IntWalk.i64_in _ (by omega)
      have y4 : IntKind.i64.wrap (M + (r + c.ch - 1) / c.ch) = M + (r + c.ch - 1) / c.ch := IntWalk.i64_in _ (by omega)
      go_region
      go_wp2_with fail
      rw [← hM] at HM
      go_roundw
      case rel =>
        have hw : M + (r + c.ch - 1) / c.ch = manyTo c (k + 1) := by rw [HM.out, hM]
        rw [hw]
        refine ⟨k + 1, .slice (some ⟨gb, 0, none⟩) (k + 1) cap, by omega, by go_num, ?_, ?_, ?_, ?_⟩
        · exact (bm.set' 6 (.int .i64 (manyTo c (k + 1))) rfl).drew
        · have := (ownsRow_setCell_below own3 (a := ⟨BM, 6, none⟩) (by simp) (.int .i64 (manyTo c (k + 1)))).drew; rw [HT.out] at this; simpa [HT.out] using this
        · exact (bc.setOther ⟨BM, 6, none⟩ _ ne2).drew
        · exact Below.drew (Below.setCell hk (p := ⟨BM, 6, none⟩) (by simp; omega) _)
      case measure => simp [intOf]; omega
    · obtain rfl : k = nN c := by omega
      have hMk : manyTo c (nN c) = manyI c := by unfold manyTo manyI; rw [List.take_of_length_le (by simp [nN])]
      rw [hMk] at bm
      rw [List.take_of_length_le (by simp [nN])] at own
      clear hMk hkn hlt

      have hpb : 1 ≤ partsI c ∧ partsI c ≤ 60 := by
        unfold partsI
        have a1 : ((nN c : Int) + c.sw - 1) / c.sw < 61 := by
          rw [Int.ediv_lt_iff_lt_mul (by omega)]; omega
        have a2 : 1 ≤ ((nN c : Int) + c.sw - 1) / c.sw := by
          rw [Int.le_ediv_iff_mul_le (by omega)]; omega
        omega
      have hds := dqs_bound Hg.out
      have hmb := manyI_bound Hg.out
      have hnb := node0_bound Hg.out
      obtain ⟨hds0, hds1, hds2, hds3⟩ := hds
      obtain ⟨hmb0, hmb1⟩ := hmb
      obtain ⟨hnb0, hnb1⟩ := hnb
      obtain ⟨hpb0, hpb1⟩ := hpb
      have y0 : ¬ c.sw = 0 := by omega
      have y1 : IntKind.i64.wrap ((nN c : Int) + c.sw) = nN c + c.sw := IntWalk.i64_in _ (by omega)
      have y2 : IntKind.i64.wrap ((nN c : Int) + c.sw - 1) = nN c + c.sw - 1 := IntWalk.i64_in _ (by omega)
      have yd : ((nN c : Int) + c.sw - 1).tdiv c.sw = partsI c := Int.tdiv_eq_ediv_of_nonneg (by omega)
      have y3 : IntKind.i64.wrap (partsI c) = partsI c := IntWalk.i64_in _ (by omega)
      have f7 := bm.free 7
      have g5 := bm.cell 5
      have g7 := bm.cell 7
      have c11 := bc.cell 11
      simp only [List.getElem?_cons_zero, List.getElem?_cons_succ] at g5 g7 c11
      go_wp2_with fail
      go_region_held3 (fun w' => w'.cell? ⟨BM, 5, none⟩ = some (.int .i64 (nN c)) ∧ w'.cell? ⟨w.heap.size, 11, none⟩ = some (.int .i64 (c.sw))) (first | exact ⟨g5, c11⟩ | exact ⟨keepCell g5 (by simp []), keepCell c11 (by simp [])⟩) (fail)
      clear f7 g5 g7 c11 y1 y2 yd y3 y0
      replace bm : Blk (wr.setCell ⟨BM, 7, none⟩ (.int .i64 (partsI c))) BM 81 [.int .i64 0, .int .i64 0, .int .i64 0, .int .i64 0, .int .i64 0, .int .i64 (nN c), .int .i64 (manyI c), .int .i64 (partsI c), .int .i64 0, .int .i64 c.c0, .int .i64 c.c1, .int .i64 c.c2, .int .i64 c.c3, .int .i64 c.c4, .int .i64 c.mks, .int .i64 c.mus, .int .i64 c.dq, .int .i64 c.ch, .int .i64 c.bu, .int .i64 c.ro, .int .i64 c.sw, .slice none 0 0, vr] := bm.set' 7 (.int .i64 (partsI c)) rfl
      replace bc := bc.setOther ⟨BM, 7, none⟩ (.int .i64 (partsI c)) ne2
      replace hk := Below.setCell hk (p := ⟨BM, 7, none⟩) (by simp; omega) (.int .i64 (partsI c))
      replace own := ownsRow_setCell_below own (a := ⟨BM, 7, none⟩) (by simp) (.int .i64 (partsI c))
      replace bm := bm.drew
      replace bc := bc.drew
      replace hk := Below.drew hk
      replace own := own.drew
      generalize (wr.setCell ⟨BM, 7, none⟩ (.int .i64 (partsI c))).drew = w21 at *
      have f0 := bm.free 0
      have g0 := bm.cell 0
      simp only [List.getElem?_cons_zero] at g0
      go_wp2_with fail
      clear f0 g0
      replace bm : Blk (w21.setCell ⟨BM, 0, none⟩ (.int .i64 (6))) BM 81 [.int .i64 6, .int .i64 0, .int .i64 0, .int .i64 0, .int .i64 0, .int .i64 (nN c), .int .i64 (manyI c), .int .i64 (partsI c), .int .i64 0, .int .i64 c.c0, .int .i64 c.c1, .int .i64 c.c2, .int .i64 c.c3, .int .i64 c.c4, .int .i64 c.mks, .int .i64 c.mus, .int .i64 c.dq, .int .i64 c.ch, .int .i64 c.bu, .int .i64 c.ro, .int .i64 c.sw, .slice none 0 0, vr] := bm.set' 0 (.int .i64 (6)) rfl
      replace bc := bc.setOther ⟨BM, 0, none⟩ (.int .i64 (6)) ne2
      replace hk := Below.setCell hk (p := ⟨BM, 0, none⟩) (by simp; omega) (.int .i64 (6))
      replace own := ownsRow_setCell_below own (a := ⟨BM, 0, none⟩) (by simp) (.int .i64 (6))
      generalize w21.setCell ⟨BM, 0, none⟩ (.int .i64 (6)) = w22 at *
      have y1 : IntKind.i64.wrap (6 + c.mus) = headI c := IntWalk.i64_in _ (by omega)
      have f1 := bm.free 1
      have g0 := bm.cell 0
      have g1 := bm.cell 1
      have c6 := bc.cell 6
      simp only [List.getElem?_cons_zero, List.getElem?_cons_succ] at g0 g1 c6
      go_region_held3 (fun w' => w'.cell? ⟨BM, 0, none⟩ = some (.int .i64 (6)) ∧ w'.cell? ⟨w.heap.size, 6, none⟩ = some (.int .i64 (c.mus))) (first | exact ⟨g0, c6⟩ | exact ⟨keepCell g0 (by simp []), keepCell c6 (by simp [])⟩) (fail)
      clear f1 g0 g1 c6 y1
      replace bm : Blk (w22.setCell ⟨BM, 1, none⟩ (.int .i64 (headI c))) BM 81 [.int .i64 6, .int .i64 (headI c), .int .i64 0, .int .i64 0, .int .i64 0, .int .i64 (nN c), .int .i64 (manyI c), .int .i64 (partsI c), .int .i64 0, .int .i64 c.c0, .int .i64 c.c1, .int .i64 c.c2, .int .i64 c.c3, .int .i64 c.c4, .int .i64 c.mks, .int .i64 c.mus, .int .i64 c.dq, .int .i64 c.ch, .int .i64 c.bu, .int .i64 c.ro, .int .i64 c.sw, .slice none 0 0, vr] := bm.set' 1 (.int .i64 (headI c)) rfl
      replace bc := bc.setOther ⟨BM, 1, none⟩ (.int .i64 (headI c)) ne2
      replace hk := Below.setCell hk (p := ⟨BM, 1, none⟩) (by simp; omega) (.int .i64 (headI c))
      replace own := ownsRow_setCell_below own (a := ⟨BM, 1, none⟩) (by simp) (.int .i64 (headI c))
      replace bm := bm.drew
      replace bc := bc.drew
      replace hk := Below.drew hk
      replace own := own.drew
      generalize (w22.setCell ⟨BM, 1, none⟩ (.int .i64 (headI c))).drew = w23 at *
      have y1 : IntKind.i64.wrap (headI c + 5) = dqsI c := IntWalk.i64_in _ (by unfold headI; omega)
      have f2 := bm.free 2
      have g1 := bm.cell 1
      have g2 := bm.cell 2
      simp only [List.getElem?_cons_zero, List.getElem?_cons_succ] at g1 g2
      go_wp2_with fail
      clear f2 g1 g2 y1
      replace bm : Blk (w23.setCell ⟨BM, 2, none⟩ (.int .i64 (dqsI c))) BM 81 [.int .i64 6, .int .i64 (headI c), .int .i64 (dqsI c), .int .i64 0, .int .i64 0, .int .i64 (nN c), .int .i64 (manyI c), .int .i64 (partsI c), .int .i64 0, .int .i64 c.c0, .int .i64 c.c1, .int .i64 c.c2, .int .i64 c.c3, .int .i64 c.c4, .int .i64 c.mks, .int .i64 c.mus, .int .i64 c.dq, .int .i64 c.ch, .int .i64 c.bu, .int .i64 c.ro, .int .i64 c.sw, .slice none 0 0, vr] := bm.set' 2 (.int .i64 (dqsI c)) rfl
      replace bc := bc.setOther ⟨BM, 2, none⟩ (.int .i64 (dqsI c)) ne2
      replace hk := Below.setCell hk (p := ⟨BM, 2, none⟩) (by simp; omega) (.int .i64 (dqsI c))
      replace own := ownsRow_setCell_below own (a := ⟨BM, 2, none⟩) (by simp) (.int .i64 (dqsI c))
      generalize w23.setCell ⟨BM, 2, none⟩ (.int .i64 (dqsI c)) = w24 at *
      have hmul := mul_small (x := c.mks) (X := 4) (y := 2 + c.dq) (Y := 10) (by omega) (by omega) (by omega) (by omega)
      have y1 : IntKind.i64.wrap (2 + c.dq) = 2 + c.dq := IntWalk.i64_in _ (by omega)
      have y2 : IntKind.i64.wrap (c.mks * (2 + c.dq)) = c.mks * (2 + c.dq) := IntWalk.i64_in _ (by omega)
      have y3 : IntKind.i64.wrap (dqsI c + c.mks * (2 + c.dq)) = pksI c := IntWalk.i64_in _ (by omega)
      clear hmul
      have f3 := bm.free 3
      have g2 := bm.cell 2
      have g3 := bm.cell 3
      have c5 := bc.cell 5
      have c7 := bc.cell 7
      simp only [List.getElem?_cons_zero, List.getElem?_cons_succ] at g2 g3 c5 c7
      go_region_held3 (fun w' => w'.cell? ⟨BM, 2, none⟩ = some (.int .i64 (dqsI c)) ∧ w'.cell? ⟨w.heap.size, 5, none⟩ = some (.int .i64 (c.mks)) ∧ w'.cell? ⟨w.heap.size, 7, none⟩ = some (.int .i64 (c.dq))) (first | exact ⟨g2, c5, c7⟩ | exact ⟨keepCell g2 (by simp []), keepCell c5 (by simp []), keepCell c7 (by simp [])⟩) (fail)
      clear f3 g2 g3 c5 c7 y1 y2 y3
      replace bm : Blk (w24.setCell ⟨BM, 3, none⟩ (.int .i64 (pksI c))) BM 81 [.int .i64 6, .int .i64 (headI c), .int .i64 (dqsI c), .int .i64 (pksI c), .int .i64 0, .int .i64 (nN c), .int .i64 (manyI c), .int .i64 (partsI c), .int .i64 0, .int .i64 c.c0, .int .i64 c.c1, .int .i64 c.c2, .int .i64 c.c3, .int .i64 c.c4, .int .i64 c.mks, .int .i64 c.mus, .int .i64 c.dq, .int .i64 c.ch, .int .i64 c.bu, .int .i64 c.ro, .int .i64 c.sw, .slice none 0 0, vr] := bm.set' 3 (.int .i64 (pksI c)) rfl
      replace bc := bc.setOther ⟨BM, 3, none⟩ (.int .i64 (pksI c)) ne2
      replace hk := Below.setCell hk (p := ⟨BM, 3, none⟩) (by simp; omega) (.int .i64 (pksI c))
      replace own := ownsRow_setCell_below own (a := ⟨BM, 3, none⟩) (by simp) (.int .i64 (pksI c))
      replace bm := bm.drew
      replace bc := bc.drew
      replace hk := Below.drew hk
      replace own := own.drew
      generalize (w24.setCell ⟨BM, 3, none⟩ (.int .i64 (pksI c))).drew = w25 at *
      have y1 : IntKind.i64.wrap (manyI c * 6) = manyI c * 6 := IntWalk.i64_in _ (by omega)
      have y2 : IntKind.i64.wrap (pksI c + manyI c * 6) = node0I c := IntWalk.i64_in _ (by omega)
      have f4 := bm.free 4
      have g3 := bm.cell 3
      have g6 := bm.cell 6
      have g4 := bm.cell 4
      simp only [List.getElem?_cons_zero, List.getElem?_cons_succ] at g3 g6 g4
      go_wp2_with fail
      go_region_held3 (fun w' => w'.cell? ⟨BM, 3, none⟩ = some (.int .i64 (pksI c)) ∧ w'.cell? ⟨BM, 6, none⟩ = some (.int .i64 (manyI c))) (first | exact ⟨g3, g6⟩ | exact ⟨keepCell g3 (by simp []), keepCell g6 (by simp [])⟩) (fail)
      clear f4 g3 g6 g4 y1 y2
      replace bm : Blk (w25.setCell ⟨BM, 4, none⟩ (.int .i64 (node0I c))) BM 81 [.int .i64 6, .int .i64 (headI c), .int .i64 (dqsI c), .int .i64 (pksI c), .int .i64 (node0I c), .int .i64 (nN c), .int .i64 (manyI c), .int .i64 (partsI c), .int .i64 0, .int .i64 c.c0, .int .i64 c.c1, .int .i64 c.c2, .int .i64 c.c3, .int .i64 c.c4, .int .i64 c.mks, .int .i64 c.mus, .int .i64 c.dq, .int .i64 c.ch, .int .i64 c.bu, .int .i64 c.ro, .int .i64 c.sw, .slice none 0 0, vr] := bm.set' 4 (.int .i64 (node0I c)) rfl
      replace bc := bc.setOther ⟨BM, 4, none⟩ (.int .i64 (node0I c)) ne2
      replace hk := Below.setCell hk (p := ⟨BM, 4, none⟩) (by simp; omega) (.int .i64 (node0I c))
      replace own := ownsRow_setCell_below own (a := ⟨BM, 4, none⟩) (by simp) (.int .i64 (node0I c))
      replace bm := bm.drew
      replace bc := bc.drew
      replace hk := Below.drew hk
      replace own := own.drew
      generalize (w25.setCell ⟨BM, 4, none⟩ (.int .i64 (node0I c))).drew = w26 at *
      have f8 := bm.free 8
      have g4 := bm.cell 4
      have g8 := bm.cell 8
      have g22 := bm.cell 22
      simp only [List.getElem?_cons_zero, List.getElem?_cons_succ] at g4 g8 g22
      obtain ⟨gr, cr, rfl, hgr0, hgr1⟩ := own.form (by omega)
      have hown := own
      have own := ownsRow_setCell_below hown (a := ⟨BM, 8, none⟩) (by simp) (.int .i64 (node0I c))
      clear hown
      have bm' : Blk (w26.setCell ⟨BM, 8, none⟩ (.int .i64 (node0I c))) BM 81 [.int .i64 6, .int .i64 (headI c), .int .i64 (dqsI c), .int .i64 (pksI c), .int .i64 (node0I c), .int .i64 (nN c), .int .i64 (manyI c), .int .i64 (partsI c), .int .i64 (node0I c), .int .i64 c.c0, .int .i64 c.c1, .int .i64 c.c2, .int .i64 c.c3, .int .i64 c.c4, .int .i64 c.mks, .int .i64 c.mus, .int .i64 c.dq, .int .i64 c.ch, .int .i64 c.bu, .int .i64 c.ro, .int .i64 c.sw, .slice none 0 0, .slice (some ⟨gr, 0, none⟩) (nN c) cr] := bm.set' 8 (.int .i64 (node0I c)) rfl
      replace bc := bc.setOther ⟨BM, 8, none⟩ (.int .i64 (node0I c)) ne2
      replace hk := Below.setCell hk (p := ⟨BM, 8, none⟩) (by simp; omega) (.int .i64 (node0I c))
      replace hgr1 : gr < (w26.setCell ⟨BM, 8, none⟩ (.int .i64 (node0I c))).heap.size := by simpa using hgr1
      go_wp2_with fail
      clear f8 g4 g8 g22 bm
      have bm := bm'
      clear bm'
      generalize w26.setCell ⟨BM, 8, none⟩ (.int .i64 (node0I c)) = wl at *
      have hatl : node0I c = atI c 0 := by unfold atI; simp [sumI]
      replace bm : Blk wl BM 81 [.int .i64 6, .int .i64 (headI c), .int .i64 (dqsI c), .int .i64 (pksI c), .int .i64 (node0I c), .int .i64 (nN c), .int .i64 (manyI c), .int .i64 (partsI c), .int .i64 (atI c 0), .int .i64 c.c0, .int .i64 c.c1, .int .i64 c.c2, .int .i64 c.c3, .int .i64 c.c4, .int .i64 c.mks, .int .i64 c.mus, .int .i64 c.dq, .int .i64 c.ch, .int .i64 c.bu, .int .i64 c.ro, .int .i64 c.sw, .slice none 0 0, .slice (some ⟨gr, 0, none⟩) (nN c) cr] := by rw [← hatl]; exact bm
      have owa : wl.ownsRow wl.heap.size 3 1 (.slice none 0 0) 0 ((atL c).map (Value.int .i64) |>.take 0) := World.ownsRow_nil _ _ _ _
      generalize hH2 : wl.heap.size = H2 at *
      have hBH : BM < H2 := by have := bm.lt; omega
      have hH2' : H2 ≤ wl.heap.size := by omega
      go_loopw [9, 170] (fun _ i wx => ∃ (k : Nat) (va : Value), k ≤ nN c ∧ i = .int .i64 k ∧ Blk wx BM 81 [.int .i64 6, .int .i64 (headI c), .int .i64 (dqsI c), .int .i64 (pksI c), .int .i64 (node0I c), .int .i64 (nN c), .int .i64 (manyI c), .int .i64 (partsI c), .int .i64 (atI c k), .int .i64 c.c0, .int .i64 c.c1, .int .i64 c.c2, .int .i64 c.c3, .int .i64 c.c4, .int .i64 c.mks, .int .i64 c.mus, .int .i64 c.dq, .int .i64 c.ch, .int .i64 c.bu, .int .i64 c.ro, .int .i64 c.sw, va, .slice (some ⟨gr, 0, none⟩) (nN c) cr] ∧ wx.ownsRow H2 3 1 va k (((atL c).map (Value.int .i64)).take k) ∧
        wx.ownsRow (BM + 1) 3 1 (.slice (some ⟨gr, 0, none⟩) (nN c) cr) (nN c) ((rooms c).map (Value.int .i64)) ∧ Kept w wx ∧ H2 ≤ wx.heap.size) (fun _ i _ => nN c - (intOf i).toNat)
      case atStart => exact ⟨0, _, by omega, rfl, bm, owa, own, hk, hH2'⟩
      case round =>
        clear bm owa own hk hatl hH2 hH2' bc
        obtain ⟨k, va, hkn, rfl, bm, owa, own, hk, hH2⟩ := hrel
        by_cases hlt : (k : Int) < nN c
        · have hlt' : k < nN c := by omega
          have hcr := own.cellAt k (by omega)
          rw [List.getElem?_map, List.getElem?_eq_getElem (show k < (rooms c).length from hlt'), Option.map_some] at hcr
          have hrd : (rooms c)[k]?.getD 0 = (rooms c)[k]'hlt' := by rw [List.getElem?_eq_getElem hlt']; rfl
          have hrb := rooms_get hlt'
          rw [hrd] at hrb
          obtain ⟨hr0, hr1⟩ := hrb
          have HS : Hid (atI c (k + 1) = atI c k + (4 + (rooms c)[k]'hlt')) := by
            have := atI_succ hlt'; rw [hrd] at this; exact this
          have HA : Hid (((atL c).map (Value.int .i64)).take (k + 1) = ((atL c).map (Value.int .i64)).take k ++ [.int .i64 (atI c k)]) := by
            unfold Hid; rw [List.take_add_one]; congr 1; simp [atL, List.getElem?_range hlt']
          generalize (rooms c)[k]'hlt' = r at *
          clear hrd
          have hab := atI_bound Hg.out k
          obtain ⟨hab0, hab1⟩ := hab
          have hk0 : (0 : Int) ≤ k := by omega
          have h63 : k + 1 ≤ maxLen := by unfold maxLen; omega
          have hb8 : (k + 1) * 8 ≤ 140737488355328 := by omega
          generalize hAk : atI c k = A at *
          have f21 := bm.free 21
          have g21 := bm.cell 21
          have g8 := bm.cell 8
          simp only [List.getElem?_cons_zero, List.getElem?_cons_succ] at g21 g8
          have hrow : ∀ g, Value.ownBlock va = some g → H2 ≤ g := fun g hg => (ownsRow_base owa g hg).1
          have bma := bm.alloc (.cells #[.int .i64 A] 3)
          have g21a := bma.cell 21
          have g8a := bma.cell 8
          simp only [List.getElem?_cons_zero, List.getElem?_cons_succ] at g21a g8a
          go_wp2_with fail
          go_region_law
            ((refine step_append_lies _ (by rfl) _ _ _ (by rfl) H2 3 i0 _ 1 8 Tryz.underlying50 hi hz0 hz1 hz2 rfl (by omega) va k _ (by rfl) ((owa.alloc _).drew)
                ⟨wr.heap.size, 0, none⟩ 1 1 [.int .i64 A] (by rfl) (by rfl) (World.news_of_block (cs := #[.int .i64 A]) (t := 3) (fr := (0, 0)) (heap_alloc_new wr _)) (by simp [Value.oneCell'])
                (by omega) h63 hb8 (by simp; omega) (wr.heap.size + 1) (by simp) ?_; intro gb cap w1 owa1 hgrow hat hlt1
              have bm' := Blk.grown ((bm.alloc _).drew) hgrow (fun e => by have := hrow _ e; omega)
              have f21' := bm'.free 21
              have g21' := bm'.cell 21
              have g8' := bm'.cell 8
              have f8' := bm'.free 8
              simp only [List.getElem?_cons_zero, List.getElem?_cons_succ] at g21' g8'))
          all_goals
            go_wp2_with fail
            go_roundw
            case rel =>
              have hw : A + (4 + r) = atI c (k + 1) := by rw [HS.out]
              rw [hw]
              refine ⟨k + 1, .slice (some ⟨gb, 0, none⟩) (k + 1) cap, by omega, by go_num, ?_, ?_, ?_, ?_, ?_⟩
              · exact (bm'.set' 21 (.slice (some ⟨gb, 0, none⟩) (k + 1) cap) rfl).set' 8 (.int .i64 (atI c (k + 1))) rfl
              · have := ownsRow_setCell_below (ownsRow_setCell_below owa1 (a := ⟨BM, 21, none⟩) (by simp; omega) (.slice (some ⟨gb, 0, none⟩) (k + 1) cap)) (a := ⟨BM, 8, none⟩) (by simp; omega) (.int .i64 (atI c (k + 1)))
                rw [HA.out]; exact this
              · have := World.ownsRow.kept ((own.alloc (.cells #[.int .i64 A] 3)).drew) hgrow (.inr (fun e => by have := hrow gr e.symm; omega))
                exact ownsRow_setCell_below (ownsRow_setCell_below this (a := ⟨BM, 21, none⟩) (by simp) _) (a := ⟨BM, 8, none⟩) (by simp) _
              · have := (Below.drew (hk.alloc hk.size (.cells #[.int .i64 A] 3))).grown hgrow (by have := hk.size; simp; omega) (fun g hg => by have := hrow g hg; omega)
                exact Below.setCell (Below.setCell this (p := ⟨BM, 21, none⟩) (by simp; omega) _) (p := ⟨BM, 8, none⟩) (by simp; omega) _
              · have := hgrow.size; simp at this ⊢; omega
            case measure => simp [intOf]; omega
        · obtain rfl : k = nN c := by omega
          rw [List.take_of_length_le (by simp [atL])] at owa
          clear hlt hkn
          go_wp2_with fail
          go_ret2
          refine ⟨BM, rfl, ⟨va, _, bm.lt, ?_, (Row.ofOwn owa).into, (Row.ofOwn own).into⟩, hk⟩
          exact bm

end Go.Proofs.YtfbcadknimfhjaaGreat
