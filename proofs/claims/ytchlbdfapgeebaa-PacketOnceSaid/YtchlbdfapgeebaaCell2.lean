/- Memory that all share: all words, new memory: walked. -/
import Derived.Test.YtchlbdfapgeebaaCell
import Derived.Laws.CopyOwn
import Derived.Deep.OwnRows
import Derived.Deep.WholeRow
namespace Go.Proofs.Ytchlbdfapgeebaa
open Go.RowKit

theorem info_u64 : (Try.prog.info? 42).map (fun i => (i.zero, i.size, i.bytes)) = some (some (.int .u64 0), 1, 8) := by kernel_rfl


set_option maxRecDepth 8000 in
theorem mAll_any {bs bl : Nat} {mem : List Int} {n : Int} (w : World) (h : StoreAt w bs bl mem n) :
    Calls Try.prog 19 #[.pointer (some ⟨bs, 0, none⟩)] w fun e w' => e = .returned (.slice (some ⟨w.heap.size, 0, none⟩) mem.length mem.length) ∧ Blk w' w.heap.size 42 (mem.map (Value.int .u64)) ∧ Kept w w' := by
  obtain ⟨i0, hi, hz0, hz1, hz2⟩ := info_parts info_u64
  have hsz : (Try.prog.info? 42).map (·.size) = some 1 := by rw [hi, ← hz1]; rfl
  have hs := h.lt
  obtain ⟨hs0, hs1⟩ := hs
  obtain ⟨g1, g2, g3, g4, cap, rest, b1, b2⟩ := h
  have c0 := b1.cell 0
  simp only [List.getElem?_cons_zero] at c0
  have hmk := fun W => run_make_row' (P := Try.prog) 34 42 (.int .u64 0) 8 Try.underlying34 info_u64 rfl .i64 .i64 mem.length (by omega) (by omega) W
  generalize hO : madeCells #[Value.int IntKind.u64 0] mem.length = O at hmk
  have hOl : O.size = mem.length := by rw [← hO]; simp [madeCells]
  have hb1 : Blk (w.alloc (.cells O 42)) bs _ _ := b1.alloc _
  have hb2 : Blk (w.alloc (.cells O 42)) bl _ _ := b2.alloc _
  have hb3 : (w.alloc (.cells O 42)).heap[w.heap.size]? = some (.cells O 42 (0, 0)) := heap_alloc_new w _
  have c1 := hb1.cell 0
  simp only [List.getElem?_cons_zero] at c1
  clear hO
  have hcp := run_copy_row (P := Try.prog) (w.alloc (.cells O 42)) 34 34 3 42 w.heap.size 0 mem.length mem.length ⟨bl, 0, none⟩ mem.length cap O _ (mem.map (Value.int .u64)) Try.underlying34 hsz hb3 (by simp)
    (by
      intro j v hj
      have hjl : j < mem.length := by
        rcases Nat.lt_or_ge j mem.length with h' | h'
        · exact h'
        · rw [List.getElem?_eq_none (by simpa using h')] at hj; cases hj
      have := hb2.cell j
      rw [List.getElem?_append_left (by simpa using hjl), hj] at this
      have ha : (⟨bl, 0, none⟩ : Addr).add j = ⟨bl, j, none⟩ := by unfold Addr.add; split <;> simp_all
      rw [ha]; exact this)
    (by simp [hOl]) (by intro v hv; simp at hv; obtain ⟨x, _, rfl⟩ := hv; rfl)
  have hrow : (O.toList.take 0 ++ mem.map (Value.int .u64) ++ O.toList.drop (0 + (mem.map (Value.int .u64)).length)) = mem.map (Value.int .u64) := by
    rw [List.drop_eq_nil_of_le (by simp [hOl])]; simp
  rw [hrow] at hcp
  rw [World.setRow_alloc_new] at hcp
  generalize hwz : w.alloc (.cells (mem.map (Value.int .u64)).toArray 42) = wz at hcp
  have hbz : Blk wz w.heap.size 42 (mem.map (Value.int .u64)) := by rw [← hwz]; exact Blk.new _ _ _
  have hkz : Kept w wz := by rw [← hwz]; exact (Below.refl _ _).alloc (Nat.le_refl _) _
  clear hb1 hb2 hb3 hwz hrow hOl b1 b2
  go_enter Try.func19, Try.ntmps19
  go_wp2_with fail
  go_ret
  exact ⟨rfl, hbz, hkz⟩

set_option maxRecDepth 8000 in
theorem clone_any {v : Value} {mem : List Int} (w : World) (hr : Row w v (mem.map (Value.int .u64))) (hp : 0 < mem.length) (hle : mem.length ≤ 20000) :
    Calls Try.prog 26 #[v] w fun e w' => ∃ g cap, e = .returned (.slice (some ⟨g, 0, none⟩) mem.length cap) ∧ w'.ownsRow w.heap.size 42 1 (.slice (some ⟨g, 0, none⟩) mem.length cap) mem.length (mem.map (Value.int .u64)) ∧ Kept w w' := by
  obtain ⟨i0, hi, hz0, hz1, hz2⟩ := info_parts info_u64
  obtain ⟨ao, cap, rfl, hm, hc⟩ := hr.ex
  obtain ⟨g, rfl, hg, _⟩ := hc 0 (.int .u64 (mem[0]'hp)) (by simp [List.getElem?_eq_getElem hp])
  have hcell : ∀ i u, (mem.map (Value.int .u64))[i]? = some u → w.cell? ⟨g, i, none⟩ = some u := by
    intro i u hu
    obtain ⟨g', he, _, h⟩ := hc i u hu
    simp at he; subst he; exact h
  have h0 : (w.alloc (.cells #[] 42)).ownsRow w.heap.size 42 1 (.slice (some ⟨w.heap.size, 0, none⟩) 0 0) 0 [] :=
    ⟨rfl, .inr ⟨w.heap.size, 0, #[], rfl, Nat.le_refl _, heap_alloc_new w _, Nat.le_refl _, Nat.zero_le _, rfl, rfl⟩⟩
  have hnil : ∀ W, (binOp .eql 34 (.slice (some ⟨g, 0, none⟩) mem.length cap) (.slice none 0 0)).run Try.prog W = .ok (.bool false) W := fun _ => rfl
  rw [List.length_map] at *
  go_enter Try.func26, Try.ntmps26
  go_wp2_with (at_builtin; refine wpList_append_lies _ (by rfl) _ _ 34 (by rfl) w.heap.size 42 i0 (.int .u64 0) 1 8 Try.underlying34 hi hz0 hz1 hz2 rfl (by decide) _ _ _ (by rfl) h0 ⟨g, 0, none⟩ mem.length cap (mem.map (Value.int .u64)) (by rfl) ?c0 ?c1 ?c2 hp ?c3 ?c4 ?c5 _ rfl ?_)
  case c0 => simp
  case c1 =>
    intro j u hj
    have ha : (⟨g, 0, none⟩ : Addr).add j = ⟨g, j, none⟩ := by unfold Addr.add; split <;> simp_all
    rw [ha]
    have := hcell j u hj
    have hlt := hg
    rw [show (w.alloc (.cells #[] 42)).cell? ⟨g, j, none⟩ = w.cell? ⟨g, j, none⟩ from World.cell?_of_block (Below.heap_alloc w _ g hg)]
    exact this
  case c2 => intro v hv; simp at hv; obtain ⟨x, _, rfl⟩ := hv; rfl
  case c3 => unfold maxLen; omega
  case c4 => omega
  case c5 => simp
  intro gb cp w1 own hgrow _ _
  go_wp2_with fail
  go_ret
  refine ⟨gb, cp, by simp, by simpa using own, ?_⟩
  exact ((Below.refl _ _).alloc (Nat.le_refl _) _).grown hgrow (by simp) (fun k hk => by simp [Value.ownBlock] at hk; omega)

/-- New memory of some words. -/
theorem new_any {v : Value} {mem : List Int} (w : World) (hr : Row w v (mem.map (Value.int .u64))) (hp : 0 < mem.length) (hle : mem.length ≤ 20000) (hall : ∀ x ∈ mem, U x) :
    Calls Try.prog 7 #[v] w fun e w' => ∃ bs bl, e = .returned (.pointer (some ⟨bs, 0, none⟩)) ∧ StoreAt w' bs bl mem 0 ∧ w.heap.size ≤ bs ∧ w.heap.size ≤ bl ∧ Kept w w' := by
  go_enter Try.func7, Try.ntmps7
  go_wp2_with fail
  refine (clone_any w hr hp hle).mono ?_; rintro e w1 ⟨g, cap, rfl, own, hk⟩
  go_wp2_with fail
  go_ret
  have hg := (ownsRow_base own g rfl)
  refine ⟨w1.heap.size, g, rfl, ⟨by omega, hall, hp, hle, cap, ?_⟩, hk.size, hg.1, hk.alloc hk.size _⟩
  rcases own.2 with ⟨h, _⟩ | ⟨g', cap', cur, hv, hb, hh, h1, h2, h3, h4⟩
  · simp at h
  · simp at hv
    obtain ⟨rfl, rfl⟩ := hv
    refine ⟨cur.toList.drop mem.length, Blk.new _ _ _, ?_⟩
    have hc : mem.map (Value.int .u64) ++ cur.toList.drop mem.length = cur.toList := by
      rw [← h4, Nat.mul_one]; exact List.take_append_drop _ _
    rw [hc]
    have : Blk w1 g 42 cur.toList := by unfold Blk; rw [hh]
    exact this.alloc _

end Go.Proofs.Ytchlbdfapgeebaa
