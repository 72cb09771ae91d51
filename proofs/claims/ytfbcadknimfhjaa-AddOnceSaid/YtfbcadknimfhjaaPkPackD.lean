/- A packet's machine that is finished at once: walked. -/
import Derived.Test.YtfbcadknimfhjaaPkE
import Derived.Test.YtfbcadknimfhjaaPkA
namespace Go.Proofs.Ytfbcadknimfhjaa
open Go.RowKit

/-- A machine that is finished, and got a packet. -/
def PkGot (w : World) (b : Nat) (p : Int) : Prop := ∃ v0 v1 v2 v4, Blk w b 91 [v0, v1, v2, .int .i64 p, v4, .nilFunc]
/-- A machine that is finished, and got nothing. -/
abbrev PkNone (w : World) (b : Nat) : Prop := PkGot w b 0

theorem PkGot.kept {w w' : World} {b : Nat} {p : Int} (h : PkGot w b p) (k : Kept w w') : PkGot w' b p := by
  obtain ⟨v0, v1, v2, v4, hb⟩ := h
  exact ⟨v0, v1, v2, v4, k.blk hb⟩

theorem PkGot.chg {w w' : World} {b : Nat} {p : Int} {S : Nat → Prop} (h : PkGot w b p) (k : Chg S w w') (hn : ¬ S b) : PkGot w' b p := by
  obtain ⟨v0, v1, v2, v4, hb⟩ := h
  exact ⟨v0, v1, v2, v4, k.blk hb hn⟩

theorem PkGot.lt {w : World} {b : Nat} {p : Int} (h : PkGot w b p) : b < w.heap.size := by
  obtain ⟨v0, v1, v2, v4, hb⟩ := h
  exact hb.lt

theorem PmAt.got {w : World} {b bi gt bm bs bl : Nat} {s : PM} (h : PmAt w b bi gt bm bs bl s) (hp : s.pc = .done) : PkGot w b s.p := by
  obtain ⟨_, _, _, _, tv, iv, hb, _, _⟩ := h
  rw [hp] at hb
  exact ⟨_, _, _, _, hb⟩

theorem pstepNone {b : Nat} {p : Int} (w : World) (sp : Value) (h : PkGot w b p) :
    Calls Try.prog 65 #[.pointer (some ⟨b, 0, none⟩), sp] w fun e w' => e = .returned (.bool true) ∧ w = w' := by
  obtain ⟨v0, v1, v2, v4, hb⟩ := h
  have g5 := hb.cell 5
  simp only [List.getElem?_cons_zero, List.getElem?_cons_succ] at g5
  have hn0 := func_eql0
  go_enter Try.func65, Try.ntmps65
  go_wp2_with fail
  go_ret
  exact ⟨rfl, rfl⟩

theorem pstepNil (w : World) (sp : Value) :
    Calls Try.prog 65 #[.pointer none, sp] w fun e w' => e = .returned (.bool true) ∧ w = w' := by
  go_enter Try.func65, Try.ntmps65
  go_wp2_with fail
  go_ret
  exact ⟨rfl, rfl⟩

theorem append_nothing (ao : Option Addr) (cap : Nat) (W : World) : (Builtin.append_ #[34, 34] 34 #[.slice none 0 0, .slice ao 0 cap]).run Try.prog W = .ok (.slice none 0 0) W := by
  obtain ⟨i0, hi, hz0, hz1, hz2⟩ := info_parts info_u64
  have hf : (Builtin.firstCells i0.size 0 (.slice ao 0 cap)).run Try.prog W = .ok #[] W := by
    cases ao with
    | none => simp [Builtin.firstCells]
    | some a => exact run_firstCells_some W i0.size 0 a 0 cap [] (by simp) (by simp)
  simp [Builtin.append_, run_underlying Try.underlying34, sizeOf, typeInfo, zeroValue, hi, hz0, Builtin.lenOf, hf]

set_option maxHeartbeats 3200000 in
/-- A put of nothing. -/
theorem putEmpty (bp : Value) (hbp : bp = .pointer none ∨ ∃ bm, bp = .pointer (some ⟨bm, 0, none⟩)) (ao : Option Addr) (cap : Nat) (hao : ao = none → cap = 0) (w : World) :
    Calls Try.prog 57 #[bp, .slice ao 0 cap] w fun e w' => e = .returned (.pointer (some ⟨w.heap.size, 0, none⟩)) ∧ PkNone w' w.heap.size ∧ Kept w w' := by
  have hb := Blk.new w 91 [bp, .slice none 0 0, .int .i64 0, .int .i64 0, .pointer none, .nilFunc]
  have hk : Kept w (w.alloc (.cells ([bp, .slice none 0 0, .int .i64 0, .int .i64 0, .pointer none, .nilFunc] : List Value).toArray 91)) := (Below.refl _ _).alloc (Nat.le_refl _) _
  have k1 := hb.cell 1
  have f1 := hb.free 1
  simp only [List.getElem?_cons_zero, List.getElem?_cons_succ] at k1
  have happ := fun W => append_nothing ao cap W
  have hc0 : (0 : Int) ≤ cap := by omega
  have hm0 : min (0 : Int) 4 = 0 := by decide
  generalize hw1 : w.alloc (.cells ([bp, .slice none 0 0, .int .i64 0, .int .i64 0, .pointer none, .nilFunc] : List Value).toArray 91) = w1 at *
  have done : ∀ (w2 : World), (w2 = w1.setCell ⟨w.heap.size, 1, none⟩ (.slice none 0 0) ∨ w2 = w1.drew.setCell ⟨w.heap.size, 1, none⟩ (.slice none 0 0)) → PkNone w2 w.heap.size ∧ Kept w w2 := by
    rintro w2 (rfl | rfl)
    · exact ⟨⟨_, _, _, _, hb.set' 1 _ rfl⟩, Below.setCell hk (p := ⟨w.heap.size, 1, none⟩) (Nat.le_refl _) _⟩
    · exact ⟨⟨_, _, _, _, hb.drew.set' 1 _ rfl⟩, Below.setCell hk.drew (p := ⟨w.heap.size, 1, none⟩) (Nat.le_refl _) _⟩
  replace done : Hid _ := done
  rcases hbp with rfl | ⟨bm, rfl⟩ <;> cases ao
  · obtain rfl := hao rfl
    go_enter Try.func57, Try.ntmps57
    go_wp2_with fail
    clear hw1
    go_region_law (fail)
    all_goals go_wp2_with fail
    all_goals go_ret
    all_goals exact ⟨rfl, done.out _ (by first | exact .inl rfl | exact .inr rfl)⟩
  · go_enter Try.func57, Try.ntmps57
    go_wp2_with fail
    clear hw1
    go_region_law (fail)
    all_goals go_wp2_with fail
    all_goals go_ret
    all_goals exact ⟨rfl, done.out _ (by first | exact .inl rfl | exact .inr rfl)⟩
  · obtain rfl := hao rfl
    go_enter Try.func57, Try.ntmps57
    go_wp2_with fail
    clear hw1
    go_region_law (fail)
    all_goals go_wp2_with fail
    all_goals go_ret
    all_goals exact ⟨rfl, done.out _ (by first | exact .inl rfl | exact .inr rfl)⟩
  · go_enter Try.func57, Try.ntmps57
    go_wp2_with fail
    clear hw1
    go_region_law (fail)
    all_goals go_wp2_with fail
    all_goals go_ret
    all_goals exact ⟨rfl, done.out _ (by first | exact .inl rfl | exact .inr rfl)⟩

set_option maxRecDepth 8000 in
set_option maxHeartbeats 1600000 in
theorem putNil {ad : Addr} {cap : Nat} {ts : List Int} (w : World) (hcap : ts.length ≤ cap) (hcell : ∀ i u, (ts.map (Value.int .u64))[i]? = some u → w.cell? (ad.add i) = some u) (hadl : ad.block < w.heap.size)
    (hpos : 0 < ts.length) (hle : ts.length ≤ 1000) :
    Calls Try.prog 57 #[.pointer none, .slice (some ad) ts.length cap] w fun e w' => e = .returned (.pointer (some ⟨w.heap.size, 0, none⟩)) ∧ PkNone w' w.heap.size ∧ Kept w w' := by
  obtain ⟨i0, hi, hz0, hz1, hz2⟩ := info_parts info_u64
  obtain ⟨k, hk⟩ : ∃ k : Nat, k = min ts.length 4 := ⟨_, rfl⟩
  have HK : Hid (k = min ts.length 4) := hk
  have hmin : min (ts.length : Int) 4 = (k : Int) := by omega
  have hk0 : (0 : Int) ≤ k := by omega
  have hk1 : 0 < k := by omega
  have hk2 : (k : Int) ≤ cap := by omega
  have hkb : k ≤ 4 := by omega
  have hl4 : ((ts.take 4).map (Value.int .u64)).length = k := by simp; omega
  have HL : Hid (((ts.take 4).map (Value.int .u64)).length = k) := hl4
  clear hl4 hk
  have hb := Blk.new w 91 ([.pointer none, .slice none 0 0, .int .i64 0, .int .i64 0, .pointer none, .nilFunc] : List Value)
  have hk3 : Kept w (w.alloc (.cells ([.pointer none, .slice none 0 0, .int .i64 0, .int .i64 0, .pointer none, .nilFunc] : List Value).toArray 91)) := (Below.refl _ _).alloc (Nat.le_refl _) _
  go_enter Try.func57, Try.ntmps57
  go_wp2_with fail
  generalize hw1 : w.alloc (.cells ([.pointer none, .slice none 0 0, .int .i64 0, .int .i64 0, .pointer none, .nilFunc] : List Value).toArray 91) = w1 at *
  have hz : w1.heap.size = w.heap.size + 1 := by rw [← hw1]; simp
  have hcell1 : ∀ i u, ((ts.take 4).map (Value.int .u64))[i]? = some u → w1.cell? (ad.add i) = some u := by
    intro i u hu
    have h0 : (ts.map (Value.int .u64))[i]? = some u := by
      rw [List.map_take, List.getElem?_take] at hu
      split at hu
      · exact hu
      · cases hu
    have := hcell i u h0
    rw [← hw1, cell_alloc_far w _ (by rw [add_block]; exact hadl)]
    exact this
  clear hw1 hcell
  have k1 := hb.cell 1
  have f1 := hb.free 1
  simp only [List.getElem?_cons_zero, List.getElem?_cons_succ] at k1
  have h0 : w1.ownsRow w1.heap.size 38 1 (.slice none 0 0) 0 [] := World.ownsRow_nil _ _ _ _
  have hone : ∀ u ∈ (ts.take 4).map (Value.int .u64), u.oneCell' = true := by
    intro u hu
    obtain ⟨x, _, rfl⟩ := List.mem_map.1 hu
    rfl
  have h63 : 0 + k ≤ maxLen := by unfold maxLen; omega
  have hb8 : (0 + k) * 8 ≤ 140737488355328 := by omega
  go_region_law
    ((refine step_append_lies _ (by rfl) _ _ _ (by rfl) w1.heap.size 38 i0 _ 1 8 Try.underlying34 hi hz0 hz1 hz2 rfl (by omega) (.slice none 0 0) 0 [] (by rfl) h0.drew
        ad k cap ((ts.take 4).map (Value.int .u64)) (by rfl) (by rw [HL.out]; omega) hcell1 hone
        hk1 h63 hb8 (by simp) w1.heap.size (by simp) ?_; intro gt gcap w2 own2 hgrow hat hlt2
      have hb2 := Blk.grown (hb.drew) hgrow (by simp [Value.ownBlock])
      have k1' := hb2.cell 1
      have f1' := hb2.free 1
      simp only [List.getElem?_cons_zero, List.getElem?_cons_succ] at k1'))
  all_goals
    have hp0 : (0 : Int) < ts.length := by omega
    have own3 := ownsRow_setCell_below own2 (a := ⟨w.heap.size, 1, none⟩) (by simp; omega) (.slice (some ⟨gt, 0, none⟩) k gcap)
    have hb3 := hb2.set' 1 (.slice (some ⟨gt, 0, none⟩) k gcap) (l' := [.pointer none, .slice (some ⟨gt, 0, none⟩) k gcap, .int .i64 0, .int .i64 0, .pointer none, .nilFunc]) rfl
    have hkk : Kept w w2 := (hk3.drew).grown hgrow (by simp; omega) (fun g hg => absurd (show (none : Option Nat) = some g from hg) (by simp))
    have hk4 := Below.setCell hkk (p := ⟨w.heap.size, 1, none⟩) (Nat.le_refl _) (.slice (some ⟨gt, 0, none⟩) k gcap)
    generalize w2.setCell ⟨w.heap.size, 1, none⟩ (.slice (some ⟨gt, 0, none⟩) k gcap) = w4 at *
    clear own2 hb2 hgrow hkk hk3 k1' f1'
    go_wp2_with fail
    go_ret
    exact ⟨rfl, ⟨_, _, _, _, hb3⟩, hk4⟩

end Go.Proofs.Ytfbcadknimfhjaa
