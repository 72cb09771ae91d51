/- A packet's machine is made: Put: walked. -/
import Derived.Test.YtchlbdfapgeebaaPack4
import Derived.Deep.RegionLaw
namespace Go.Proofs.Ytchlbdfapgeebaa
open Go.RowKit

theorem add_block (ad : Addr) (i : Nat) : (ad.add i).block = ad.block := by unfold Addr.add; split <;> rfl

theorem cell_alloc_far (w : World) (o : Obj) {a : Addr} (h : a.block < w.heap.size) : (w.alloc o).cell? a = w.cell? a := World.cell?_of_block (Below.heap_alloc w o a.block h)

set_option maxRecDepth 8000 in
set_option maxHeartbeats 1600000 in
theorem packPut_any {bm bs bl B : Nat} {c : Cfg} {mem : List Int} {n : Int} {ad : Addr} {cap : Nat} {ts : List Int} (w : World) (hs : StoreAt w bs bl mem n) (_hm : MapAt w B bm c) (hcap : ts.length ≤ cap) (hcell : ∀ i u, (ts.map (Value.int .u64))[i]? = some u → w.cell? (ad.add i) = some u) (hadl : ad.block < w.heap.size)
    (hall : ∀ x ∈ ts, U x) (hpos : 0 < ts.length) (hle : ts.length ≤ 1000) :
    Calls Try.prog 11 #[.pointer (some ⟨bm, 0, none⟩), .slice (some ad) ts.length cap] w fun e w' => ∃ b bi gt, e = .returned (.pointer (some ⟨b, 0, none⟩)) ∧ PmAt w' b bi gt bm bs bl ⟨.spare, ts.take 4, 0, 0, ⟨.popHead, 5, 0, 0, 0⟩⟩ ∧ w.heap.size ≤ b ∧ w.heap.size ≤ bi ∧ w.heap.size ≤ gt ∧ gt < w'.heap.size ∧ Kept w w' := by
  obtain ⟨i0, hi, hz0, hz1, hz2⟩ := info_parts info_u64
  obtain ⟨k, hk⟩ : ∃ k : Nat, k = min ts.length 4 := ⟨_, rfl⟩
  have HK : Hid (k = min ts.length 4) := hk
  have hmin : min (ts.length : Int) 4 = (k : Int) := by omega
  have hk0 : (0 : Int) ≤ k := by omega
  have hk1 : 0 < k := by omega
  have hk2 : (k : Int) ≤ cap := by omega
  have hkb : k ≤ 4 := by omega
  have hl4 : ((ts.take 4).map (Value.int .u64)).length = k := by simp; omega
  have HL : Hid (((ts.take 4).map (Value.int .u64)).length = k) := hl4
  clear hl4 hk
  have hb := Blk.new w 68 (pmL bm (.slice none 0 0) 0 0 (.pointer none) .nilFunc)
  have hk3 : Kept w (w.alloc (.cells (pmL bm (.slice none 0 0) 0 0 (.pointer none) .nilFunc).toArray 68)) := (Below.refl _ _).alloc (Nat.le_refl _) _
  go_enter Try.func11, Try.ntmps11
  go_wp2_with fail
  generalize hw1 : w.alloc (.cells (pmL bm (.slice none 0 0) 0 0 (.pointer none) .nilFunc).toArray 68) = w1 at *
  have hz : w1.heap.size = w.heap.size + 1 := by rw [← hw1]; simp
  have hcell1 : ∀ i u, ((ts.take 4).map (Value.int .u64))[i]? = some u → w1.cell? (ad.add i) = some u := by
    intro i u hu
    have h0 : (ts.map (Value.int .u64))[i]? = some u := by
      rw [List.map_take, List.getElem?_take] at hu
      split at hu
      · exact hu
      · cases hu
    have := hcell i u h0
    rw [← hw1, cell_alloc_far w _ (by rw [add_block]; exact hadl)]
    exact this
  clear hw1 hcell
  have k1 := hb.cell 1
  have f1 := hb.free 1
  simp only [List.getElem?_cons_zero, List.getElem?_cons_succ] at k1
  have h0 : w1.ownsRow w1.heap.size 42 1 (.slice none 0 0) 0 [] := World.ownsRow_nil _ _ _ _
  have hone : ∀ u ∈ (ts.take 4).map (Value.int .u64), u.oneCell' = true := by
    intro u hu
    obtain ⟨x, _, rfl⟩ := List.mem_map.1 hu
    rfl
  have h63 : 0 + k ≤ maxLen := by unfold maxLen; omega
  have hb8 : (0 + k) * 8 ≤ 140737488355328 := by omega
  go_region_law
    ((refine step_append_lies _ (by rfl) _ _ _ (by rfl) w1.heap.size 42 i0 _ 1 8 Try.underlying34 hi hz0 hz1 hz2 rfl (by omega) (.slice none 0 0) 0 [] (by rfl) h0.drew
        ad k cap ((ts.take 4).map (Value.int .u64)) (by rfl) (by rw [HL.out]; omega) hcell1 hone
        hk1 h63 hb8 (by simp) w1.heap.size (by simp) ?_; intro gt gcap w2 own2 hgrow hat hlt2
      have hb2 := Blk.grown (hb.drew) hgrow (by simp [Value.ownBlock])
      have k1' := hb2.cell 1
      have f1' := hb2.free 1
      simp only [List.getElem?_cons_zero, List.getElem?_cons_succ] at k1'))
  all_goals
    have hp0 : (0 : Int) < ts.length := by omega
    have own3 := ownsRow_setCell_below own2 (a := ⟨w.heap.size, 1, none⟩) (by simp; omega) (.slice (some ⟨gt, 0, none⟩) k gcap)
    have hb3 := hb2.set' 1 (.slice (some ⟨gt, 0, none⟩) k gcap) (l' := pmL bm (.slice (some ⟨gt, 0, none⟩) k gcap) 0 0 (.pointer none) .nilFunc) rfl
    have hkk : Kept w w2 := (hk3.drew).grown hgrow (by simp; omega) (fun g hg => absurd (show (none : Option Nat) = some g from hg) (by simp))
    have hk4 := Below.setCell hkk (p := ⟨w.heap.size, 1, none⟩) (Nat.le_refl _) (.slice (some ⟨gt, 0, none⟩) k gcap)
    have hgb := ownsRow_base own3 gt rfl
    generalize w2.setCell ⟨w.heap.size, 1, none⟩ (.slice (some ⟨gt, 0, none⟩) k gcap) = w4 at *
    clear own2 hb2 hgrow hkk hk3 k1' f1'
    go_wp2_with fail
    refine (mSpare_any bm w4).mono ?_; rintro e w5 ⟨rfl, rfl⟩
    go_wp2_with fail
    refine (pop_any w4).mono ?_; rintro e w5 ⟨rfl, hsm5, hsz5, hk5⟩
    have hb5 := hk5.blk hb3
    have q4 := hb5.cell 4
    have f4 := hb5.free 4
    have q5 := hb5.cell 5
    have f5 := hb5.free 5
    simp only [List.getElem?_cons_zero, List.getElem?_cons_succ] at q4 q5
    go_wp2_with fail
    go_ret
    have l := hs.lt
    have hz4 := hk4.size
    have hcb : Chg (fun k => k = w.heap.size) w5 ((w5.setCell ⟨w.heap.size, 4, none⟩ (.pointer (some ⟨w4.heap.size, 0, none⟩))).setCell ⟨w.heap.size, 5, none⟩ ((PPc.spare).val w.heap.size)) := ((Chg.refl (fun k => k = w.heap.size) w5).setCell ⟨w.heap.size, 4, none⟩ _ (fun _ => rfl)).setCell ⟨w.heap.size, 5, none⟩ _ (fun _ => rfl)
    have hlt4 : (ts.take 4).length = k := by have := HK.out; simp; omega
    obtain ⟨cur, hbt⟩ : ∃ rest, Blk w4 gt 42 ((ts.take 4).map (Value.int .u64) ++ rest) := by
      rcases own3.2 with ⟨h, _⟩ | ⟨g', cap', cur, hv, hb0, hh, y1, y2, y3, y4⟩
      · cases h
      · simp at hv
        obtain ⟨rfl, rfl⟩ := hv
        refine ⟨cur.toList.drop k, ?_⟩
        have hc : (ts.take 4).map (Value.int .u64) ++ cur.toList.drop k = cur.toList := by
          have y5 : cur.toList.take k = (ts.take 4).map (Value.int .u64) := by simpa using y4
          rw [← y5]; exact List.take_append_drop _ _
        rw [hc]
        unfold Blk; rw [hh]
    have ht5 : TasksAt w5 gt (.slice (some ⟨gt, 0, none⟩) k gcap) (ts.take 4) := .inr ⟨gcap, cur, by rw [hlt4], hk5.blk hbt⟩
    have hgs : gt < w5.heap.size := by have := (hk5.blk hbt).lt; exact this
    exact ⟨w.heap.size, w4.heap.size, gt, rfl, ⟨⟨by omega, by omega, by omega, by omega, by omega, by omega, by omega, by omega, by omega⟩, (fun x hx => hall x (List.mem_of_mem_take hx)), ⟨by rw [hlt4]; exact hkb, Nat.zero_le _⟩, ⟨Int.le_refl 0, (by decide : (0 : Int) < 4294967296)⟩, _, _, (hb5.set' 4 _ rfl).set' 5 _ rfl, ht5.chg hcb (by show ¬ gt = w.heap.size; omega), fun _ => ⟨rfl, hsm5.chg hcb (by show ¬ w4.heap.size = w.heap.size; omega), rfl⟩⟩, Nat.le_refl _, by omega, by omega, by simpa using hgs, Below.setCell (Below.setCell (Kept.trans' hk4 hk5) (p := ⟨w.heap.size, 4, none⟩) (Nat.le_refl _) _) (p := ⟨w.heap.size, 5, none⟩) (Nat.le_refl _) _⟩

end Go.Proofs.Ytchlbdfapgeebaa
