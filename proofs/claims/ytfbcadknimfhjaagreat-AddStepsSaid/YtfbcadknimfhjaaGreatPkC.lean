/- Memory that all share: walked. Memory that all share: all words, new memory: walked. All words as they are at first: walked. -/
import Derived.Test.YtfbcadknimfhjaaGreatPkNew
import Derived.Laws.CopyOwn
import Derived.Deep.OwnRows
import Derived.Deep.WholeRow
import Derived.Test.YtfbcadknimfhjaaGreatPkA
namespace Go.Proofs.YtfbcadknimfhjaaGreat
open Go.RowKit

/-- A number of 64 bits. -/
def U (x : Int) : Prop := 0 ≤ x ∧ x < 18446744073709551616

/-- One access more. -/
def cnt (n : Int) : Int := wrap64 (n + 1)

/-- Memory stands at block bs, its words at block bl. -/
structure StoreAt (w : World) (bs bl : Nat) (mem : List Int) (n : Int) : Prop where
  ne : bl ≠ bs
  all : ∀ x ∈ mem, U x
  pos : 0 < mem.length
  le : mem.length ≤ 20000
  ex : ∃ (cap : Nat) (rest : List Value), Blk w bs 88 [.slice (some ⟨bl, 0, none⟩) mem.length cap, .int .i64 n] ∧ Blk w bl 25 (mem.map (Value.int .u64) ++ rest)

theorem StoreAt.below {w w' : World} {bs bl : Nat} {mem : List Int} {n : Int} {B : Nat} (h : StoreAt w bs bl mem n) (k : Below B w w') (hs : bs < B) (hl : bl < B) : StoreAt w' bs bl mem n := by
  obtain ⟨h1, h2, h3, h4, cap, rest, b1, b2⟩ := h
  refine ⟨h1, h2, h3, h4, cap, rest, ?_, ?_⟩
  · unfold Blk; rw [k.block bs hs]; exact b1
  · unfold Blk; rw [k.block bl hl]; exact b2

theorem StoreAt.lt {w : World} {bs bl : Nat} {mem : List Int} {n : Int} (h : StoreAt w bs bl mem n) : bs < w.heap.size ∧ bl < w.heap.size := by
  obtain ⟨h1, h2, h3, h4, cap, rest, b1, b2⟩ := h
  exact ⟨b1.lt, b2.lt⟩

theorem StoreAt.kept {w w' : World} {bs bl : Nat} {mem : List Int} {n : Int} (h : StoreAt w bs bl mem n) (k : Kept w w') : StoreAt w' bs bl mem n := h.below k h.lt.1 h.lt.2

theorem StoreAt.chg {w w' : World} {bs bl : Nat} {mem : List Int} {n : Int} {S : Nat → Prop} (h : StoreAt w bs bl mem n) (k : Chg S w w') (hs : ¬ S bs) (hl : ¬ S bl) : StoreAt w' bs bl mem n := by
  obtain ⟨h1, h2, h3, h4, cap, rest, b1, b2⟩ := h
  exact ⟨h1, h2, h3, h4, cap, rest, k.blk b1 hs, k.blk b2 hl⟩

theorem store_word {cs : List Int} {rest : List Value} {i : Nat} (h : i < cs.length) : (cs.map (Value.int .u64) ++ rest)[i]? = some (.int .u64 (cs[i]?.getD 0)) := by
  rw [List.getElem?_append_left (by simpa using h), List.getElem?_map, List.getElem?_eq_getElem h]; rfl

theorem store_put {cs : List Int} {rest : List Value} {i : Nat} {x : Int} (h : i < cs.length) : (cs.map (Value.int .u64) ++ rest).set i (.int .u64 x) = (cs.set i x).map (Value.int .u64) ++ rest := by
  rw [List.set_append_left _ _ (by simpa using h), List.map_set]

/-- A word. -/
def mget (mem : List Int) (a : Int) : Int := if 0 ≤ a ∧ a < mem.length then mem[a.toNat]?.getD 0 else 0
/-- A word changed. -/
def mput (mem : List Int) (a x : Int) : List Int := if 0 ≤ a ∧ a < mem.length then mem.set a.toNat x else mem

theorem mput_len (mem : List Int) (a x : Int) : (mput mem a x).length = mem.length := by unfold mput; split <;> simp

theorem mget_all {mem : List Int} (h : ∀ x ∈ mem, U x) (a : Int) : U (mget mem a) := by
  unfold mget
  split
  · next ha =>
    rw [List.getElem?_eq_getElem (show a.toNat < mem.length by omega)]
    exact h _ (List.getElem_mem _)
  · unfold U; omega

theorem mput_all {mem : List Int} (h : ∀ x ∈ mem, U x) (a x : Int) (hx : U x) : ∀ y ∈ mput mem a x, U y := by
  unfold mput
  split
  · intro y hy
    rcases List.mem_or_eq_of_mem_set hy with h1 | h1
    · exact h y h1
    · exact h1 ▸ hx
  · exact h

theorem word_in {bs bl : Nat} {mem : List Int} {n : Int} {i : Nat} (w : World) (h : StoreAt w bs bl mem n) (hi : i < mem.length) :
    Calls Tryz.prog 50 #[.pointer (some ⟨bs, 0, none⟩), .int .i64 i] w fun e w' => e = .returned (.pointer (some ⟨bl, i, none⟩)) ∧ StoreAt w' bs bl mem (cnt n) ∧ Chg (fun k => k = bs) w w' := by
  obtain ⟨h1, h2, h3, h4, cap, rest, b1, b2⟩ := h
  have g0 := b1.cell 0
  have g1 := b1.cell 1
  have f1 := b1.free 1
  simp only [List.getElem?_cons_zero, List.getElem?_cons_succ] at g0 g1
  have hi' : (i : Int) < mem.length := by omega
  have hi0 : (0 : Int) ≤ i := by omega
  go_enter Tryz.func50, Tryz.ntmps50
  go_wp2_with fail
  go_ret
  refine ⟨rfl, ⟨h1, h2, h3, h4, cap, rest, b1.set' 1 _ rfl, b2.setOther _ _ h1⟩, (Chg.refl _ _).setCell _ _ (fun _ => rfl)⟩

theorem word_out {bs bl : Nat} {mem : List Int} {n : Int} {a : Int} (w : World) (h : StoreAt w bs bl mem n) (ha : ¬ (0 ≤ a ∧ a < mem.length)) :
    Calls Tryz.prog 50 #[.pointer (some ⟨bs, 0, none⟩), .int .i64 a] w fun e w' => e = .returned (.pointer none) ∧ StoreAt w' bs bl mem (cnt n) ∧ Chg (fun k => k = bs) w w' := by
  obtain ⟨h1, h2, h3, h4, cap, rest, b1, b2⟩ := h
  have g0 := b1.cell 0
  have g1 := b1.cell 1
  have f1 := b1.free 1
  simp only [List.getElem?_cons_zero, List.getElem?_cons_succ] at g0 g1
  have hc : a < 0 ∨ (0 ≤ a ∧ (mem.length : Int) ≤ a) := by omega
  clear ha
  rcases hc with ha | ⟨ha, ha'⟩
  · go_enter Tryz.func50, Tryz.ntmps50
    go_wp2_with fail
    go_ret
    refine ⟨rfl, ⟨h1, h2, h3, h4, cap, rest, b1.set' 1 _ rfl, b2.setOther _ _ h1⟩, (Chg.refl _ _).setCell _ _ (fun _ => rfl)⟩
  · go_enter Tryz.func50, Tryz.ntmps50
    go_wp2_with fail
    go_ret
    refine ⟨rfl, ⟨h1, h2, h3, h4, cap, rest, b1.set' 1 _ rfl, b2.setOther _ _ h1⟩, (Chg.refl _ _).setCell _ _ (fun _ => rfl)⟩

theorem load_any {bs bl : Nat} {mem : List Int} {n : Int} (a : Int) (w : World) (h : StoreAt w bs bl mem n) :
    Calls Tryz.prog 58 #[.pointer (some ⟨bs, 0, none⟩), .int .i64 a] w fun e w' => e = .returned (.int .u64 (mget mem a)) ∧ StoreAt w' bs bl mem (cnt n) ∧ Chg (fun k => k = bs) w w' := by
  by_cases ha : 0 ≤ a ∧ a < mem.length
  · obtain ⟨i, rfl⟩ : ∃ i : Nat, a = i := ⟨a.toNat, by omega⟩
    have hi : i < mem.length := by omega
    rw [show mget mem i = mem[i]?.getD 0 from by unfold mget; rw [if_pos ha]; simp]
    clear ha
    go_enter Tryz.func58, Tryz.ntmps58
    go_wp2_with fail
    refine (word_in _ h hi).mono ?_; rintro e w' ⟨rfl, h', hc⟩
    obtain ⟨g1, g2, g3, g4, cap, rest, b1, b2⟩ := id h'
    have c := b2.cell i
    rw [store_word hi] at c
    go_wp2_with fail
    go_ret
    exact ⟨ret_int (by rw [List.getElem?_eq_getElem hi]; rfl), h', hc⟩
  · rw [show mget mem a = 0 from if_neg ha]
    go_enter Tryz.func58, Tryz.ntmps58
    go_wp2_with fail
    refine (word_out _ h ha).mono ?_; rintro e w' ⟨rfl, h', hc⟩
    go_wp2_with fail
    go_ret
    exact ⟨rfl, h', hc⟩

/-- The blocks of a memory. -/
abbrev MemB (bs bl : Nat) : Nat → Prop := fun k => k = bs ∨ k = bl

theorem Chg.memB {bs bl : Nat} {w w' : World} (h : Chg (fun k => k = bs) w w') : Chg (MemB bs bl) w w' := h.mono (fun _ _ e => .inl e)

theorem put_any {bs bl : Nat} {mem : List Int} {n : Int} (a x : Int) (w : World) (h : StoreAt w bs bl mem n) (hx : U x) :
    Calls Tryz.prog 21 #[.pointer (some ⟨bs, 0, none⟩), .int .i64 a, .int .u64 x] w fun e w' => e = .returned (.tuple #[]) ∧ StoreAt w' bs bl (mput mem a x) (cnt n) ∧ Chg (MemB bs bl) w w' := by
  by_cases ha : 0 ≤ a ∧ a < mem.length
  · obtain ⟨i, rfl⟩ : ∃ i : Nat, a = i := ⟨a.toNat, by omega⟩
    have hi : i < mem.length := by omega
    have HM : Hid (mput mem i x = mem.set i x) := by unfold Hid mput; rw [if_pos ha]; simp
    have HA : ∀ y ∈ mput mem i x, U y := mput_all h.all _ _ hx
    rw [HM.out] at HA ⊢
    clear ha
    go_enter Tryz.func21, Tryz.ntmps21
    go_wp2_with fail
    refine (word_in _ h hi).mono ?_; rintro e w' ⟨rfl, h', hc⟩
    obtain ⟨g1, g2, g3, g4, cap, rest, b1, b2⟩ := h'
    have c := b2.cell i
    rw [store_word hi] at c
    have f := b2.free i
    go_wp2_with fail
    go_end0
    refine ⟨rfl, ⟨g1, HA, by simpa using g3, by simpa using g4, cap, rest, ?_, b2.set' i _ (store_put hi)⟩, hc.memB.setCell _ _ (fun _ => .inr rfl)⟩
    have := b1.setOther ⟨bl, i, none⟩ (.int .u64 x) (Ne.symm g1)
    simpa using this
  · rw [show mput mem a x = mem from if_neg ha]
    go_enter Tryz.func21, Tryz.ntmps21
    go_wp2_with fail
    refine (word_out _ h ha).mono ?_; rintro e w' ⟨rfl, h', hc⟩
    go_wp2_with fail
    go_end0
    exact ⟨rfl, h', hc.memB⟩

theorem mCount_any {bs bl : Nat} {mem : List Int} {n : Int} (w : World) (h : StoreAt w bs bl mem n) :
    Calls Tryz.prog 15 #[.pointer (some ⟨bs, 0, none⟩)] w fun e w' => e = .returned (.int .i64 n) ∧ w = w' := by
  obtain ⟨g1, g2, g3, g4, cap, rest, b1, b2⟩ := h
  have g1 := b1.cell 1
  simp only [List.getElem?_cons_zero, List.getElem?_cons_succ] at g1
  go_enter Tryz.func15, Tryz.ntmps15
  go_wp2_with fail
  go_ret
  exact ⟨rfl, rfl⟩

theorem StoreAt.put {bs bl : Nat} {mem : List Int} {n : Int} {w : World} (h : StoreAt w bs bl mem n) {i : Nat} (hi : i < mem.length) {x : Int} (hx : U x) : StoreAt (w.setCell ⟨bl, i, none⟩ (.int .u64 x)) bs bl (mput mem i x) n := by
  have HA := mput_all h.all (i : Int) x hx
  rw [show mput mem i x = mem.set i x from by unfold mput; rw [if_pos (by omega)]; simp] at HA ⊢
  obtain ⟨g1, g2, g3, g4, cap, rest, b1, b2⟩ := h
  refine ⟨g1, HA, by simpa using g3, by simpa using g4, cap, rest, ?_, b2.set' i _ (store_put hi)⟩
  have := b1.setOther ⟨bl, i, none⟩ (.int .u64 x) (Ne.symm g1)
  simpa using this

theorem StoreAt.word {bs bl : Nat} {mem : List Int} {n : Int} {w : World} (h : StoreAt w bs bl mem n) {i : Nat} (hi : i < mem.length) : w.cell? ⟨bl, i, none⟩ = some (.int .u64 (mget mem i)) ∧ w.frozen? ⟨bl, i, none⟩ = false := by
  obtain ⟨g1, g2, g3, g4, cap, rest, b1, b2⟩ := h
  have c := b2.cell i
  rw [store_word hi] at c
  rw [show mget mem i = mem[i]?.getD 0 from by unfold mget; rw [if_pos (by omega)]; simp]
  exact ⟨c, b2.free i⟩

theorem swap_hit {bs bl : Nat} {mem : List Int} {n : Int} (a old x : Int) (w : World) (h : StoreAt w bs bl mem n) (hx : U x) (ha : 0 ≤ a ∧ a < mem.length) (ho : mget mem a = old) :
    Calls Tryz.prog 122 #[.pointer (some ⟨bs, 0, none⟩), .int .i64 a, .int .u64 old, .int .u64 x] w fun e w' => e = .returned (.bool true) ∧ StoreAt w' bs bl (mput mem a x) (cnt n) ∧ Chg (MemB bs bl) w w' := by
  obtain ⟨i, rfl⟩ : ∃ i : Nat, a = i := ⟨a.toNat, by omega⟩
  have hi : i < mem.length := by omega
  go_enter Tryz.func122, Tryz.ntmps122
  go_wp2_with fail
  refine (word_in _ h hi).mono ?_; rintro e w' ⟨rfl, h', hc⟩
  obtain ⟨c, f⟩ := h'.word hi
  rw [ho] at c
  clear ho ha
  go_wp2_with fail
  go_ret
  exact ⟨rfl, h'.put hi hx, hc.memB.setCell _ _ (fun _ => .inr rfl)⟩

theorem swap_miss {bs bl : Nat} {mem : List Int} {n : Int} (a old x : Int) (w : World) (h : StoreAt w bs bl mem n) (ha : 0 ≤ a ∧ a < mem.length) (ho : mget mem a ≠ old) :
    Calls Tryz.prog 122 #[.pointer (some ⟨bs, 0, none⟩), .int .i64 a, .int .u64 old, .int .u64 x] w fun e w' => e = .returned (.bool false) ∧ StoreAt w' bs bl mem (cnt n) ∧ Chg (MemB bs bl) w w' := by
  obtain ⟨i, rfl⟩ : ∃ i : Nat, a = i := ⟨a.toNat, by omega⟩
  have hi : i < mem.length := by omega
  have hne : (mget mem i == old) = false := by simpa using ho
  generalize hG : mget mem i = g at *
  go_enter Tryz.func122, Tryz.ntmps122
  go_wp2_with fail
  refine (word_in _ h hi).mono ?_; rintro e w' ⟨rfl, h', hc⟩
  obtain ⟨c, f⟩ := h'.word hi
  rw [hG] at c
  clear ha hG
  go_wp2_with fail
  go_ret
  exact ⟨rfl, h', hc.memB⟩

theorem swap_out {bs bl : Nat} {mem : List Int} {n : Int} (a old x : Int) (w : World) (h : StoreAt w bs bl mem n) (ha : ¬ (0 ≤ a ∧ a < mem.length)) :
    Calls Tryz.prog 122 #[.pointer (some ⟨bs, 0, none⟩), .int .i64 a, .int .u64 old, .int .u64 x] w fun e w' => e = .returned (.bool false) ∧ StoreAt w' bs bl mem (cnt n) ∧ Chg (MemB bs bl) w w' := by
  go_enter Tryz.func122, Tryz.ntmps122
  go_wp2_with fail
  refine (word_out _ h ha).mono ?_; rintro e w' ⟨rfl, h', hc⟩
  go_wp2_with fail
  go_ret
  exact ⟨rfl, h', hc.memB⟩

/-- Is a word one? -/
def mhit (mem : List Int) (a old : Int) : Bool := decide (0 ≤ a ∧ a < mem.length) && decide (mget mem a = old)

theorem swap_any {bs bl : Nat} {mem : List Int} {n : Int} (a old x : Int) (w : World) (h : StoreAt w bs bl mem n) (hx : U x) :
    Calls Tryz.prog 122 #[.pointer (some ⟨bs, 0, none⟩), .int .i64 a, .int .u64 old, .int .u64 x] w fun e w' => e = .returned (.bool (mhit mem a old)) ∧ StoreAt w' bs bl (if mhit mem a old then mput mem a x else mem) (cnt n) ∧ Chg (MemB bs bl) w w' := by
  by_cases ha : 0 ≤ a ∧ a < mem.length
  · by_cases ho : mget mem a = old
    · rw [show mhit mem a old = true from by unfold mhit; rw [decide_eq_true ha, decide_eq_true ho]; rfl]
      exact swap_hit a old x w h hx ha ho
    · rw [show mhit mem a old = false from by unfold mhit; rw [decide_eq_false ho, Bool.and_false]]
      exact swap_miss a old x w h ha ho
  · rw [show mhit mem a old = false from by unfold mhit; rw [decide_eq_false ha, Bool.false_and]]
    exact swap_out a old x w h ha

end Go.Proofs.YtfbcadknimfhjaaGreat

namespace Go.Proofs.YtfbcadknimfhjaaGreat
open Go.RowKit

theorem info_u64 : (Tryz.prog.info? 25).map (fun i => (i.zero, i.size, i.bytes)) = some (some (.int .u64 0), 1, 8) := by kernel_rfl


set_option maxRecDepth 8000 in
theorem mAll_any {bs bl : Nat} {mem : List Int} {n : Int} (w : World) (h : StoreAt w bs bl mem n) :
    Calls Tryz.prog 13 #[.pointer (some ⟨bs, 0, none⟩)] w fun e w' => e = .returned (.slice (some ⟨w.heap.size, 0, none⟩) mem.length mem.length) ∧ Blk w' w.heap.size 25 (mem.map (Value.int .u64)) ∧ Kept w w' := by
  obtain ⟨i0, hi, hz0, hz1, hz2⟩ := info_parts info_u64
  have hsz : (Tryz.prog.info? 25).map (·.size) = some 1 := by rw [hi, ← hz1]; rfl
  have hs := h.lt
  obtain ⟨hs0, hs1⟩ := hs
  obtain ⟨g1, g2, g3, g4, cap, rest, b1, b2⟩ := h
  have c0 := b1.cell 0
  simp only [List.getElem?_cons_zero] at c0
  have hmk := fun W => run_make_row' (P := Tryz.prog) 41 25 (.int .u64 0) 8 Tryz.underlying41 info_u64 rfl .i64 .i64 mem.length (by omega) (by omega) W
  generalize hO : madeCells #[Value.int IntKind.u64 0] mem.length = O at hmk
  have hOl : O.size = mem.length := by rw [← hO]; simp [madeCells]
  have hb1 : Blk (w.alloc (.cells O 25)) bs _ _ := b1.alloc _
  have hb2 : Blk (w.alloc (.cells O 25)) bl _ _ := b2.alloc _
  have hb3 : (w.alloc (.cells O 25)).heap[w.heap.size]? = some (.cells O 25 (0, 0)) := heap_alloc_new w _
  have c1 := hb1.cell 0
  simp only [List.getElem?_cons_zero] at c1
  clear hO
  have hcp := run_copy_row (P := Tryz.prog) (w.alloc (.cells O 25)) 41 41 3 25 w.heap.size 0 mem.length mem.length ⟨bl, 0, none⟩ mem.length cap O _ (mem.map (Value.int .u64)) Tryz.underlying41 hsz hb3 (by simp)
    (by
      intro j v hj
      have hjl : j < mem.length := by
        rcases Nat.lt_or_ge j mem.length with h' | h'
        · exact h'
        · rw [List.getElem?_eq_none (by simpa using h')] at hj; cases hj
      have := hb2.cell j
      rw [List.getElem?_append_left (by simpa using hjl), hj] at this
      have ha : (⟨bl, 0, none⟩ : Addr).add j = ⟨bl, j, none⟩ := by unfold Addr.add; split <;> simp_all
      rw [ha]; exact this)
    (by simp [hOl]) (by intro v hv; simp at hv; obtain ⟨x, _, rfl⟩ := hv; rfl)
  have hrow : (O.toList.take 0 ++ mem.map (Value.int .u64) ++ O.toList.drop (0 + (mem.map (Value.int .u64)).length)) = mem.map (Value.int .u64) := by
    rw [List.drop_eq_nil_of_le (by simp [hOl])]; simp
  rw [hrow] at hcp
  rw [World.setRow_alloc_new] at hcp
  generalize hwz : w.alloc (.cells (mem.map (Value.int .u64)).toArray 25) = wz at hcp
  have hbz : Blk wz w.heap.size 25 (mem.map (Value.int .u64)) := by rw [← hwz]; exact Blk.new _ _ _
  have hkz : Kept w wz := by rw [← hwz]; exact (Below.refl _ _).alloc (Nat.le_refl _) _
  clear hb1 hb2 hb3 hwz hrow hOl b1 b2
  go_enter Tryz.func13, Tryz.ntmps13
  go_wp2_with fail
  go_ret
  exact ⟨rfl, hbz, hkz⟩

set_option maxRecDepth 8000 in
theorem clone_any {v : Value} {mem : List Int} (w : World) (hr : Row w v (mem.map (Value.int .u64))) (hp : 0 < mem.length) (hle : mem.length ≤ 20000) :
    Calls Tryz.prog 33 #[v] w fun e w' => ∃ g cap, e = .returned (.slice (some ⟨g, 0, none⟩) mem.length cap) ∧ w'.ownsRow w.heap.size 25 1 (.slice (some ⟨g, 0, none⟩) mem.length cap) mem.length (mem.map (Value.int .u64)) ∧ Kept w w' := by
  obtain ⟨i0, hi, hz0, hz1, hz2⟩ := info_parts info_u64
  obtain ⟨ao, cap, rfl, hm, hc⟩ := hr.ex
  obtain ⟨g, rfl, hg, _⟩ := hc 0 (.int .u64 (mem[0]'hp)) (by simp [List.getElem?_eq_getElem hp])
  have hcell : ∀ i u, (mem.map (Value.int .u64))[i]? = some u → w.cell? ⟨g, i, none⟩ = some u := by
    intro i u hu
    obtain ⟨g', he, _, h⟩ := hc i u hu
    simp at he; subst he; exact h
  have h0 : (w.alloc (.cells #[] 25)).ownsRow w.heap.size 25 1 (.slice (some ⟨w.heap.size, 0, none⟩) 0 0) 0 [] :=
    ⟨rfl, .inr ⟨w.heap.size, 0, #[], rfl, Nat.le_refl _, heap_alloc_new w _, Nat.le_refl _, Nat.zero_le _, rfl, rfl⟩⟩
  have hnil : ∀ W, (binOp .eql 41 (.slice (some ⟨g, 0, none⟩) mem.length cap) (.slice none 0 0)).run Tryz.prog W = .ok (.bool false) W := fun _ => rfl
  rw [List.length_map] at *
  go_enter Tryz.func33, Tryz.ntmps33
  go_wp2_with (at_builtin; refine wpList_append_lies _ (by rfl) _ _ 41 (by rfl) w.heap.size 25 i0 (.int .u64 0) 1 8 Tryz.underlying41 hi hz0 hz1 hz2 rfl (by decide) _ _ _ (by rfl) h0 ⟨g, 0, none⟩ mem.length cap (mem.map (Value.int .u64)) (by rfl) ?c0 ?c1 ?c2 hp ?c3 ?c4 ?c5 _ rfl ?_)
  case c0 => simp
  case c1 =>
    intro j u hj
    have ha : (⟨g, 0, none⟩ : Addr).add j = ⟨g, j, none⟩ := by unfold Addr.add; split <;> simp_all
    rw [ha]
    have := hcell j u hj
    have hlt := hg
    rw [show (w.alloc (.cells #[] 25)).cell? ⟨g, j, none⟩ = w.cell? ⟨g, j, none⟩ from World.cell?_of_block (Below.heap_alloc w _ g hg)]
    exact this
  case c2 => intro v hv; simp at hv; obtain ⟨x, _, rfl⟩ := hv; rfl
  case c3 => unfold maxLen; omega
  case c4 => omega
  case c5 => simp
  intro gb cp w1 own hgrow _ _
  go_wp2_with fail
  go_ret
  refine ⟨gb, cp, by simp, by simpa using own, ?_⟩
  exact ((Below.refl _ _).alloc (Nat.le_refl _) _).grown hgrow (by simp) (fun k hk => by simp [Value.ownBlock] at hk; omega)

/-- New memory of some words. -/
theorem new_any {v : Value} {mem : List Int} (w : World) (hr : Row w v (mem.map (Value.int .u64))) (hp : 0 < mem.length) (hle : mem.length ≤ 20000) (hall : ∀ x ∈ mem, U x) :
    Calls Tryz.prog 9 #[v] w fun e w' => ∃ bs bl, e = .returned (.pointer (some ⟨bs, 0, none⟩)) ∧ StoreAt w' bs bl mem 0 ∧ w.heap.size ≤ bs ∧ w.heap.size ≤ bl ∧ Kept w w' := by
  go_enter Tryz.func9, Tryz.ntmps9
  go_wp2_with fail
  refine (clone_any w hr hp hle).mono ?_; rintro e w1 ⟨g, cap, rfl, own, hk⟩
  go_wp2_with fail
  go_ret
  have hg := (ownsRow_base own g rfl)
  refine ⟨w1.heap.size, g, rfl, ⟨by omega, hall, hp, hle, cap, ?_⟩, hk.size, hg.1, hk.alloc hk.size _⟩
  rcases own.2 with ⟨h, _⟩ | ⟨g', cap', cur, hv, hb, hh, h1, h2, h3, h4⟩
  · simp at h
  · simp at hv
    obtain ⟨rfl, rfl⟩ := hv
    refine ⟨cur.toList.drop mem.length, Blk.new _ _ _, ?_⟩
    have hc : mem.map (Value.int .u64) ++ cur.toList.drop mem.length = cur.toList := by
      rw [← h4, Nat.mul_one]; exact List.take_append_drop _ _
    rw [hc]
    have : Blk w1 g 25 cur.toList := by unfold Blk; rw [hh]
    exact this.alloc _

end Go.Proofs.YtfbcadknimfhjaaGreat

namespace Go.Proofs.YtfbcadknimfhjaaGreat
open Go.RowKit

theorem atI_mono {c : Cfg} (k m : Nat) (h : k ≤ m) (hm : m ≤ nN c) : atI c k ≤ atI c m := by
  induction m with
  | zero =>
    obtain rfl : k = 0 := by omega
    exact Int.le_refl _
  | succ m ih =>
    by_cases e : k = m + 1
    · subst e; exact Int.le_refl _
    · have := ih (by omega) (by omega)
      have := atI_succ (c := c) (k := m) (by omega)
      have := rooms_get (c := c) (k := m) (by omega)
      omega

theorem atI_zero (c : Cfg) : atI c 0 = node0I c := by unfold atI; simp [sumI]

theorem pack_place {c : Cfg} (hg : Good c) {p j : Int} (h1 : 1 ≤ p) (h2 : p ≤ manyI c) (h3 : 0 ≤ j) (h4 : j ≤ 5) : 16 ≤ pPack c p j ∧ pPack c p j < node0I c ∧ node0I c ≤ allI c ∧ pPack c p j = pksI c + (p - 1) * 6 + j := by
  have := dqs_bound hg
  have := atI_mono (c := c) 0 (nN c) (by omega) (by omega)
  rw [atI_zero] at this
  have e : pPack c p j = pksI c + (p - 1) * 6 + j := if_pos ⟨h1, h2⟩
  unfold allI node0I at *
  omega

theorem node_place {c : Cfg} {v j : Int} (h1 : 1 ≤ v) (h2 : v ≤ nN c) (h3 : 0 ≤ j) (h4 : j < 4 + room c v) : node0I c ≤ pNode c v j ∧ pNode c v j < allI c := by
  have e : pNode c v j = atI c (v - 1).toNat + j := if_pos ⟨h1, h2⟩
  have hr : room c v = (rooms c)[(v - 1).toNat]?.getD 0 := if_pos ⟨h1, h2⟩
  have a := atI_mono (c := c) 0 (v - 1).toNat (by omega) (by omega)
  have b := atI_mono (c := c) ((v - 1).toNat + 1) (nN c) (by omega) (by omega)
  have s := atI_succ (c := c) (k := (v - 1).toNat) (by omega)
  rw [atI_zero] at a
  unfold allI
  omega

theorem cls_range {c : Cfg} {v : Int} (h1 : 1 ≤ v) (h2 : v ≤ nN c) : 0 ≤ clsI c v ∧ clsI c v ≤ 4 := by
  unfold clsI
  rw [if_pos ⟨h1, h2⟩, List.getElem?_eq_getElem (show (v - 1).toNat < (clsL c).length by rw [nN_cls]; omega)]
  exact clsL_mem c _ (List.getElem_mem _)

theorem head_place {c : Cfg} (hg : Good c) {v : Int} (h1 : 1 ≤ v) (h2 : v ≤ nN c) : 7 ≤ pHead c (clsI c v) ∧ pHead c (clsI c v) < pksI c := by
  have := cls_range h1 h2
  have := dqs_bound hg
  have e : pHead c (clsI c v) = headI c + clsI c v := if_pos ⟨by omega, by omega⟩
  have hh : headI c = 6 + c.mus := rfl
  have hd : dqsI c = headI c + 5 := rfl
  obtain ⟨_, _, _, _, _, _, hu, _⟩ := hg
  omega

theorem allI_bound {c : Cfg} (hg : Good c) : 40 ≤ allI c ∧ allI c ≤ 14000 := atI_bound hg _

/-- Memory with k packets linked. -/
def linkTo (c : Cfg) : Nat → List Int
  | 0 => (List.replicate (allI c).toNat 0).set 5 1
  | k + 1 => mput (linkTo c k) (pPack c (k + 1) 1) (k + 2)

/-- .. and with j nodes free, from the last but one on. -/
def freeTo (c : Cfg) : Nat → List Int
  | 0 => mput (mput (linkTo c (manyI c - 1).toNat) (pNode c (nN c) 1) 1) (pNode c (nN c) 0) (room c (nN c))
  | j + 1 =>
    let v : Int := nN c - 1 - j
    let h := pHead c (clsI c v)
    let l := freeTo c j
    mput (mput l (pNode c v 3) (mget l h)) h v

/-- All words as they are at first. -/
def firstL (c : Cfg) : List Int := freeTo c (nN c - 1)

theorem linkTo_len (c : Cfg) (k : Nat) : (linkTo c k).length = (allI c).toNat := by
  induction k with
  | zero => simp [linkTo]
  | succ k ih => rw [linkTo, mput_len, ih]

theorem freeTo_len (c : Cfg) (j : Nat) : (freeTo c j).length = (allI c).toNat := by
  induction j with
  | zero => rw [freeTo, mput_len, mput_len, linkTo_len]
  | succ j ih => simp only [freeTo, mput_len, ih]

theorem linkTo_all {c : Cfg} (k : Nat) (hk : k ≤ 2000) : ∀ x ∈ linkTo c k, U x := by
  induction k with
  | zero =>
    intro x hx
    rcases List.mem_or_eq_of_mem_set hx with h | h
    · rw [List.eq_of_mem_replicate h]; unfold U; omega
    · rw [h]; unfold U; omega
  | succ k ih => exact mput_all (ih (by omega)) _ _ (by unfold U; omega)

theorem freeTo_all {c : Cfg} (hg : Good c) (j : Nat) (hj : j ≤ nN c) : ∀ x ∈ freeTo c j, U x := by
  have hn := nN_bound hg
  have hm := manyI_bound hg
  induction j with
  | zero =>
    have := room_bound c (nN c)
    exact mput_all (mput_all (linkTo_all _ (by omega)) _ _ (by unfold U; omega)) _ _ (by unfold U; omega)
  | succ j ih =>
    have := ih (by omega)
    exact mput_all (mput_all this _ _ (mget_all this _)) _ _ (by unfold U; omega)

theorem mClass_any {B bm : Nat} {c : Cfg} (v : Int) (w : World) (hm : MapAt w B bm c) (hg : Good c) (h63 : v ≤ 9223372036854775807) :
    Calls Tryz.prog 41 #[.pointer (some ⟨bm, 0, none⟩), .int .i64 v] w fun e w' => e = .returned (.int .i64 (clsI c v)) ∧ Kept w w' := by
  obtain ⟨q0, q1, q2, q3, q4, _⟩ := hm.conf
  go_enter Tryz.func41, Tryz.ntmps41
  go_wp2_with fail
  refine (class_any c v _ hg h63).mono ?_; rintro e w' ⟨rfl, hk⟩
  go_wp2_with fail
  go_ret
  exact ⟨rfl, hk⟩

/-- A row of words, in a block. -/
theorem words_set {L : List Int} {a : Int} {i : Nat} (ha : a = i) (hi : i < L.length) (x : Int) : (L.map (Value.int .u64)).set i (.int .u64 x) = (mput L a x).map (Value.int .u64) := by
  unfold mput; rw [if_pos (by omega), ha, List.map_set]; simp

theorem at_cell {w : World} {g : Nat} {L : List Int} (hb : Blk w g 25 (L.map (Value.int .u64))) {a : Int} {i : Nat} (ha : a = i) (hi : i < L.length) : w.cell? ⟨g, i, none⟩ = some (.int .u64 (mget L a)) ∧ w.frozen? ⟨g, i, none⟩ = false := by
  refine ⟨?_, hb.free i⟩
  rw [hb.cell i, List.getElem?_map]
  unfold mget
  rw [if_pos (by omega), ha, List.getElem?_eq_getElem hi]
  simp [List.getElem?_eq_getElem hi]

theorem MapAt.drew {w : World} {B bm : Nat} {c : Cfg} (h : MapAt w B bm c) : MapAt w.drew B bm c := h.below (B' := B) ⟨rfl, rfl, rfl, Nat.le_refl _, fun _ _ => rfl⟩ (Nat.le_refl _)

theorem next_is {B bm : Nat} {c : Cfg} {v n : Int} (h : pNode c v 3 = n) (w : World) (hm : MapAt w B bm c) (hg : Good c) :
    Calls Tryz.prog 42 #[.pointer (some ⟨bm, 0, none⟩), .int .i64 v] w fun e w' => e = .returned (.int .i64 n) ∧ w = w' := h ▸ mNext_any v w hm hg

set_option maxRecDepth 8000 in
set_option maxHeartbeats 1600000 in
theorem first_any {B bm : Nat} {c : Cfg} (w : World) (hm : MapAt w B bm c) (hg : Good c) (hB : B ≤ w.heap.size) :
    Calls Tryz.prog 10 #[.pointer (some ⟨bm, 0, none⟩)] w fun e w' => ∃ v, e = .returned v ∧ Row w' v ((firstL c).map (Value.int .u64)) ∧ Kept w w' := by
  have hab := allI_bound hg
  obtain ⟨hab0, hab1⟩ := hab
  obtain ⟨A, hA⟩ : ∃ A : Nat, allI c = A := ⟨(allI c).toNat, by omega⟩
  have HA : Hid (allI c = A) := hA
  obtain ⟨_, _, _, _, _, _, _, _, c6, c8⟩ := id hm.cells
  rw [hA] at c8 hab0 hab1
  have hmk := run_make_row' (P := Tryz.prog) 41 25 (.int .u64 0) 8 Tryz.underlying41 info_u64 rfl .i64 .i64 A (by omega) (by omega) w
  have hO : madeCells #[Value.int IntKind.u64 0] A = ((List.replicate A (0 : Int)).map (Value.int .u64)).toArray := by
    rw [← Array.toList_inj]; rw [toList_madeCells_one]; simp
  rw [hO] at hmk
  clear hO hA
  have hk0 : Kept w (w.alloc (.cells ((List.replicate A (0 : Int)).map (Value.int .u64)).toArray 25)) := (Below.refl _ _).alloc (Nat.le_refl _) _
  have hb0 : Blk (w.alloc (.cells ((List.replicate A (0 : Int)).map (Value.int .u64)).toArray 25)) w.heap.size 25 ((List.replicate A (0 : Int)).map (Value.int .u64)) := Blk.new _ _ _
  have hm0 := hm.kept hk0 hB
  generalize hw1 : w.alloc (.cells ((List.replicate A (0 : Int)).map (Value.int .u64)).toArray 25) = w1 at hmk hk0 hb0 hm0
  have f5 := hb0.free 5
  have g5 := hb0.cell 5
  rw [List.getElem?_map, List.getElem?_replicate, if_pos (by omega), Option.map_some] at g5
  have h5 : (5 : Int) < A := by omega
  clear hw1 hm
  go_enter Tryz.func10, Tryz.ntmps10
  go_wp2_with fail
  refine (pair_any 0 1 _ (by omega) (by omega) (by omega) (by omega)).mono ?_; rintro e w2 ⟨rfl, rfl⟩
  go_wp2_with fail
  have hbs := hb0.set' 5 (.int .u64 1) (l' := (linkTo c 0).map (Value.int .u64)) (by unfold linkTo; rw [HA.out, List.map_set]; rfl)
  have hms : MapAt (w1.setCell ⟨w.heap.size, 5, none⟩ (.int .u64 1)) B bm c := hm0.below (Below.setCell (Below.refl w.heap.size w1) (p := ⟨w.heap.size, 5, none⟩) (Nat.le_refl _) _) hB
  have hks := Below.setCell hk0 (p := ⟨w.heap.size, 5, none⟩) (Nat.le_refl _) (.int .u64 1)
  clear f5 g5 h5 hmk hb0 hm0 hk0 c6 c8
  have hmb := manyI_bound hg
  obtain ⟨hmb0, hmb1⟩ := hmb
  go_loopw [4] (fun p wr => ∃ k : Nat, p = .int .i64 ((k : Int) + 1) ∧ (k : Int) + 1 ≤ manyI c ∧ Blk wr w.heap.size 25 ((linkTo c k).map (Value.int .u64)) ∧ MapAt wr B bm c ∧ Kept w wr) (fun p _ => (manyI c).toNat - (intOf p).toNat)
  case atStart => exact ⟨0, by go_num, by omega, hbs, hms, hks⟩
  case round =>
    clear hbs hms hks
    obtain ⟨k, rfl, hk1, hb, hm, hk⟩ := hrel
    obtain ⟨_, _, _, _, _, _, _, c6, _⟩ := hm.cells
    by_cases hlt : (k : Int) + 1 < manyI c
    · have hp := pack_place hg (p := (k : Int) + 1) (j := 1) (by omega) (by omega) (by omega) (by omega)
      obtain ⟨hp0, hp1, hp2, _⟩ := hp
      obtain ⟨a, ha⟩ : ∃ a : Nat, pPack c (k + 1) 1 = a := ⟨(pPack c (k + 1) 1).toNat, by omega⟩
      have HP : Hid (pPack c (k + 1) 1 = a) := ha
      have haA : a < A := by have := HA.out; omega
      have hal : a < (linkTo c k).length := by rw [linkTo_len]; have := HA.out; omega
      obtain ⟨g, f⟩ := at_cell hb (rfl : (a : Int) = a) hal
      have HS := words_set (L := linkTo c k) (a := a) (i := a) rfl hal (k + 2)
      rw [show mput (linkTo c k) a (k + 2) = linkTo c (k + 1) from by rw [linkTo, HP.out]] at HS
      replace HS : Hid _ := HS
      have h0 : (0 : Int) ≤ a := by omega
      have h1 : (a : Int) < A := by omega
      clear ha hp0 hp1 hp2
      generalize mget (linkTo c k) a = old at *
      go_wp2_with fail
      refine (mLink_any _ _ hm hg).mono ?_; rintro e w2 ⟨rfl, rfl⟩
      rw [HP.out]
      go_wp2_with fail
      go_roundw
      case rel =>
        refine ⟨k + 1, by go_num, by push_cast; omega, ?_, ?_, ?_⟩
        · have := hb.set' a (.int .u64 (k + 2)) HS.out
          rw [show (k : Int) + 2 = k + 1 + 1 from by omega] at this
          exact this
        · exact hm.below (Below.setCell (Below.refl w.heap.size wr) (p := ⟨w.heap.size, a, none⟩) (Nat.le_refl _) _) hB
        · exact Below.setCell hk (p := ⟨w.heap.size, a, none⟩) (Nat.le_refl _) _
      case measure => simp [intOf]; omega
    · have hkm : (k : Int) + 1 = manyI c := by omega
      go_wp2_with fail
      refine (mCommon_any _ hm).mono ?_; rintro e w2 ⟨rfl, rfl⟩
      have hn := nN_bound hg
      obtain ⟨hn0, hn1⟩ := hn
      have hrb := room_bound c (nN c)
      obtain ⟨hrb0, hrb1⟩ := hrb
      have hp1 := node_place (c := c) (v := nN c) (j := 1) (by omega) (by omega) (by omega) (by omega)
      have hp0 := node_place (c := c) (v := nN c) (j := 0) (by omega) (by omega) (by omega) (by omega)
      have hnb := node0_bound hg
      obtain ⟨a1, ha1⟩ : ∃ a : Nat, pNode c (nN c) 1 = a := ⟨(pNode c (nN c) 1).toNat, by omega⟩
      obtain ⟨a0, ha0⟩ : ∃ a : Nat, pNode c (nN c) 0 = a := ⟨(pNode c (nN c) 0).toNat, by omega⟩
      have e1 : a1 = a0 + 1 := by
        have x1 : pNode c (nN c) 1 = atI c (nN c - 1 : Int).toNat + 1 := if_pos ⟨by omega, by omega⟩
        have x0 : pNode c (nN c) 0 = atI c (nN c - 1 : Int).toNat + 0 := if_pos ⟨by omega, by omega⟩
        omega
      have HP1 : Hid (pNode c (nN c) 1 = a1) := ha1
      have HP0 : Hid (pNode c (nN c) 0 = a0) := ha0
      have hA := HA.out
      have hl1 : a1 < (linkTo c k).length := by rw [linkTo_len]; omega
      have hl0 : a0 < (mput (linkTo c k) a1 1).length := by rw [mput_len, linkTo_len]; omega
      have hl0' : a0 < (linkTo c k).length := by rw [linkTo_len]; omega
      have HS1 : Hid _ := words_set (L := linkTo c k) (a := a1) (i := a1) rfl hl1 1
      have HS0 : Hid _ := words_set (L := mput (linkTo c k) a1 1) (a := a0) (i := a0) rfl hl0 (room c (nN c))
      obtain ⟨g1, f1⟩ := at_cell hb (rfl : (a1 : Int) = a1) hl1
      obtain ⟨g0, f0⟩ := at_cell hb (rfl : (a0 : Int) = a0) hl0'
      have z1 : (0 : Int) ≤ a1 := by omega
      have z2 : (a1 : Int) < A := by omega
      have z3 : (0 : Int) ≤ a0 := by omega
      have z4 : (a0 : Int) < A := by omega
      have z5 : ¬ a1 = a0 := by omega
      have hkk : k = (manyI c - 1).toNat := by omega
      generalize mget (linkTo c k) a1 = old1 at *
      generalize mget (linkTo c k) a0 = old0 at *
      clear ha1 ha0 e1 hl1 hl0 hl0' hp1 hp0 hnb hA hk1 hkm hlt c6
      go_wp2_with fail
      refine (mState_any _ _ hm hg).mono ?_; rintro e w2 ⟨rfl, rfl⟩
      rw [HP1.out]
      go_wp2_with fail
      refine (mHeader_any _ _ hm hg).mono ?_; rintro e w2 ⟨rfl, rfl⟩
      rw [HP0.out]
      go_wp2_with fail
      refine (mRoom_any _ _ hm hg).mono ?_; rintro e w2 ⟨rfl, rfl⟩
      generalize hR : room c (nN c) = R at *
      go_wp2_with fail
      have hb1 := (hb.set' a1 (.int .u64 1) HS1.out).set' a0 (.int .u64 R) HS0.out
      rw [show mput (mput (linkTo c k) a1 1) a0 R = freeTo c 0 from by rw [freeTo, HP1.out, HP0.out, hR, hkk]] at hb1
      have hm1 : MapAt ((wr.setCell ⟨w.heap.size, a1, none⟩ (.int .u64 1)).setCell ⟨w.heap.size, a0, none⟩ (.int .u64 R)) B bm c := hm.below (Below.setCell (Below.setCell (Below.refl w.heap.size wr) (p := ⟨w.heap.size, a1, none⟩) (Nat.le_refl _) _) (p := ⟨w.heap.size, a0, none⟩) (Nat.le_refl _) _) hB
      have hk1 := Below.setCell (Below.setCell hk (p := ⟨w.heap.size, a1, none⟩) (Nat.le_refl _) (.int .u64 1)) (p := ⟨w.heap.size, a0, none⟩) (Nat.le_refl _) (.int .u64 R)
      generalize ((wr.setCell ⟨w.heap.size, a1, none⟩ (.int .u64 1)).setCell ⟨w.heap.size, a0, none⟩ (.int .u64 R)) = wf at *
      clear hb hm hk g1 f1 g0 f0 z1 z2 z3 z4 z5 HS1 HS0 HP1 HP0
      go_loopw [6, 7] (fun v _ wr => ∃ j : Nat, j ≤ nN c - 1 ∧ v = .int .i64 (nN c - 1 - j : Int) ∧ Blk wr w.heap.size 25 ((freeTo c j).map (Value.int .u64)) ∧ MapAt wr B bm c ∧ Kept w wr) (fun v _ _ => (intOf v).toNat)
      case atStart => exact ⟨0, by omega, by go_num, hb1, hm1, hk1⟩
      case round =>
        clear hb1 hm1 hk1
        obtain ⟨j, hj, rfl, hb, hm, hk⟩ := hrel
        by_cases hv : 1 ≤ (nN c - 1 - j : Int)
        · obtain ⟨V, hV⟩ : ∃ V : Int, (nN c - 1 - j : Int) = V := ⟨_, rfl⟩
          have hV1 : V ≤ nN c := by omega
          rw [hV] at hv
          have hp := node_place (c := c) (v := V) (j := 3) (by omega) (by omega) (by omega) (by have := room_bound c V; omega)
          have hh := head_place hg (v := V) (by omega) (by omega)
          have hnb := node0_bound hg
          have hdb := dqs_bound hg
          have hpn : pksI c ≤ node0I c := by unfold node0I; omega
          obtain ⟨a, ha⟩ : ∃ a : Nat, pNode c V 3 = a := ⟨(pNode c V 3).toNat, by omega⟩
          obtain ⟨h, hh'⟩ : ∃ h : Nat, pHead c (clsI c V) = h := ⟨(pHead c (clsI c V)).toNat, by omega⟩
          have HPa : Hid (pNode c V 3 = a) := ha
          have HPh : Hid (pHead c (clsI c V) = h) := hh'
          have hA := HA.out
          have la : a < (freeTo c j).length := by rw [freeTo_len]; omega
          have lh : h < (freeTo c j).length := by rw [freeTo_len]; omega
          have lh2 : h < (mput (freeTo c j) a (mget (freeTo c j) h)).length := by rw [mput_len]; exact lh
          have hne : ¬ a = h := by omega
          have hne' : ¬ h = a := by omega
          have HS1 : Hid _ := words_set (L := freeTo c j) (a := a) (i := a) rfl la (mget (freeTo c j) h)
          have HS2 : Hid _ := words_set (L := mput (freeTo c j) a (mget (freeTo c j) h)) (a := h) (i := h) rfl lh2 V
          have HF : Hid (mput (mput (freeTo c j) a (mget (freeTo c j) h)) h V = freeTo c (j + 1)) := by
            unfold Hid; simp only [freeTo]; rw [hV, HPa.out, HPh.out]
          have z1 : (0 : Int) ≤ a := by omega
          have z2 : (a : Int) < A := by omega
          have z3 : (0 : Int) ≤ h := by omega
          have z4 : (h : Int) < A := by omega
          rw [HF.out] at HS2
          have HV : Hid ((nN c - 1 - j : Int) = V) := hV
          have z5 : V < 4294967296 := by omega
          have La : Hid (a < (freeTo c j).length) := la
          have Lh : Hid (h < (freeTo c j).length) := lh
          clear ha hh' hp hh hnb hdb hpn hA la lh lh2
          rw [hV]
          clear hV HF
          go_wp2_with fail
          refine (mClass_any V _ hm hg (by omega)).mono ?_; rintro e w2 ⟨rfl, hk2⟩
          replace hm := hm.below hk2 (by have := hk.size; omega)
          replace hb := hk2.blk hb
          replace hk := hk.trans' hk2
          obtain ⟨ga, fa⟩ := at_cell hb (rfl : (a : Int) = a) La.out
          obtain ⟨gh, fh⟩ := at_cell hb (rfl : (h : Int) = h) Lh.out
          clear hk2 La Lh
          generalize mget (freeTo c j) a = old at *
          generalize mget (freeTo c j) h = mh at *
          go_wp2_with fail
          refine (mHead_any _ _ hm hg).mono ?_; rintro e w3 ⟨rfl, rfl⟩
          rw [HPh.out]
          go_wp2_with fail
          go_region_held3 (fun w' => w'.cell? ⟨w.heap.size, h, none⟩ = some (.int .u64 mh)) (first | exact gh | exact keepCell gh (by simp []))
            (first | (go_at_call 42; refine (next_is HPa.out _ hm.drew hg).mono ?_; rintro e w3 ⟨rfl, rfl⟩))
          go_wp2_with fail
          refine (pair_any 0 V _ (by omega) (by omega) (by omega) z5).mono ?_; rintro e w3 ⟨rfl, rfl⟩
          go_wp2_with fail
          go_roundw
          case rel =>
            refine ⟨j + 1, by have := HV.out; omega, by rw [← HV.out]; go_num, ?_, ?_, ?_⟩
            · have := (hb.set' a (.int .u64 mh) HS1.out).set' h (.int .u64 V) HS2.out
              exact this
            · exact hm.below (Below.drew (Below.setCell (Below.setCell (Below.refl w.heap.size w2) (p := ⟨w.heap.size, a, none⟩) (Nat.le_refl _) _) (p := ⟨w.heap.size, h, none⟩) (Nat.le_refl _) _)) hB
            · exact Below.drew (Below.setCell (Below.setCell hk (p := ⟨w.heap.size, a, none⟩) (Nat.le_refl _) _) (p := ⟨w.heap.size, h, none⟩) (Nat.le_refl _) _)
          case measure => have := HV.out; simp [intOf]; omega
        · go_wp2_with fail
          go_ret
          have hjn : j = nN c - 1 := by omega
          have hl : (firstL c).length = A := by unfold firstL; rw [freeTo_len]; have := HA.out; omega
          subst hjn
          refine ⟨_, rfl, ⟨some ⟨w.heap.size, 0, none⟩, A, by simp [hl], by simp [hl]; unfold maxLen; omega, fun i u hu => ⟨w.heap.size, rfl, hb.lt, ?_⟩⟩, hk⟩
          rw [hb.cell i]; exact hu

end Go.Proofs.YtfbcadknimfhjaaGreat
