/- Memory that all share: walked. -/
import Derived.Test.YtchlbdfapgeebaaNew
namespace Go.Proofs.Ytchlbdfapgeebaa
open Go.RowKit

/-- A number of 64 bits. -/
def U (x : Int) : Prop := 0 ≤ x ∧ x < 18446744073709551616

/-- One access more. -/
def cnt (n : Int) : Int := wrap64 (n + 1)

/-- Memory stands at block bs, its words at block bl. -/
structure StoreAt (w : World) (bs bl : Nat) (mem : List Int) (n : Int) : Prop where
  ne : bl ≠ bs
  all : ∀ x ∈ mem, U x
  pos : 0 < mem.length
  le : mem.length ≤ 20000
  ex : ∃ (cap : Nat) (rest : List Value), Blk w bs 62 [.slice (some ⟨bl, 0, none⟩) mem.length cap, .int .i64 n] ∧ Blk w bl 42 (mem.map (Value.int .u64) ++ rest)

theorem StoreAt.below {w w' : World} {bs bl : Nat} {mem : List Int} {n : Int} {B : Nat} (h : StoreAt w bs bl mem n) (k : Below B w w') (hs : bs < B) (hl : bl < B) : StoreAt w' bs bl mem n := by
  obtain ⟨h1, h2, h3, h4, cap, rest, b1, b2⟩ := h
  refine ⟨h1, h2, h3, h4, cap, rest, ?_, ?_⟩
  · unfold Blk; rw [k.block bs hs]; exact b1
  · unfold Blk; rw [k.block bl hl]; exact b2

theorem StoreAt.lt {w : World} {bs bl : Nat} {mem : List Int} {n : Int} (h : StoreAt w bs bl mem n) : bs < w.heap.size ∧ bl < w.heap.size := by
  obtain ⟨h1, h2, h3, h4, cap, rest, b1, b2⟩ := h
  exact ⟨b1.lt, b2.lt⟩

theorem StoreAt.kept {w w' : World} {bs bl : Nat} {mem : List Int} {n : Int} (h : StoreAt w bs bl mem n) (k : Kept w w') : StoreAt w' bs bl mem n := h.below k h.lt.1 h.lt.2

theorem StoreAt.chg {w w' : World} {bs bl : Nat} {mem : List Int} {n : Int} {S : Nat → Prop} (h : StoreAt w bs bl mem n) (k : Chg S w w') (hs : ¬ S bs) (hl : ¬ S bl) : StoreAt w' bs bl mem n := by
  obtain ⟨h1, h2, h3, h4, cap, rest, b1, b2⟩ := h
  exact ⟨h1, h2, h3, h4, cap, rest, k.blk b1 hs, k.blk b2 hl⟩

theorem store_word {cs : List Int} {rest : List Value} {i : Nat} (h : i < cs.length) : (cs.map (Value.int .u64) ++ rest)[i]? = some (.int .u64 (cs[i]?.getD 0)) := by
  rw [List.getElem?_append_left (by simpa using h), List.getElem?_map, List.getElem?_eq_getElem h]; rfl

theorem store_put {cs : List Int} {rest : List Value} {i : Nat} {x : Int} (h : i < cs.length) : (cs.map (Value.int .u64) ++ rest).set i (.int .u64 x) = (cs.set i x).map (Value.int .u64) ++ rest := by
  rw [List.set_append_left _ _ (by simpa using h), List.map_set]

/-- A word. -/
def mget (mem : List Int) (a : Int) : Int := if 0 ≤ a ∧ a < mem.length then mem[a.toNat]?.getD 0 else 0
/-- A word changed. -/
def mput (mem : List Int) (a x : Int) : List Int := if 0 ≤ a ∧ a < mem.length then mem.set a.toNat x else mem

theorem mput_len (mem : List Int) (a x : Int) : (mput mem a x).length = mem.length := by unfold mput; split <;> simp

theorem mget_all {mem : List Int} (h : ∀ x ∈ mem, U x) (a : Int) : U (mget mem a) := by
  unfold mget
  split
  · next ha =>
    rw [List.getElem?_eq_getElem (show a.toNat < mem.length by omega)]
    exact h _ (List.getElem_mem _)
  · unfold U; omega

theorem mput_all {mem : List Int} (h : ∀ x ∈ mem, U x) (a x : Int) (hx : U x) : ∀ y ∈ mput mem a x, U y := by
  unfold mput
  split
  · intro y hy
    rcases List.mem_or_eq_of_mem_set hy with h1 | h1
    · exact h y h1
    · exact h1 ▸ hx
  · exact h

theorem word_in {bs bl : Nat} {mem : List Int} {n : Int} {i : Nat} (w : World) (h : StoreAt w bs bl mem n) (hi : i < mem.length) :
    Calls Try.prog 42 #[.pointer (some ⟨bs, 0, none⟩), .int .i64 i] w fun e w' => e = .returned (.pointer (some ⟨bl, i, none⟩)) ∧ StoreAt w' bs bl mem (cnt n) ∧ Chg (fun k => k = bs) w w' := by
  obtain ⟨h1, h2, h3, h4, cap, rest, b1, b2⟩ := h
  have g0 := b1.cell 0
  have g1 := b1.cell 1
  have f1 := b1.free 1
  simp only [List.getElem?_cons_zero, List.getElem?_cons_succ] at g0 g1
  have hi' : (i : Int) < mem.length := by omega
  have hi0 : (0 : Int) ≤ i := by omega
  go_enter Try.func42, Try.ntmps42
  go_wp2_with fail
  go_ret
  refine ⟨rfl, ⟨h1, h2, h3, h4, cap, rest, b1.set' 1 _ rfl, b2.setOther _ _ h1⟩, (Chg.refl _ _).setCell _ _ (fun _ => rfl)⟩

theorem word_out {bs bl : Nat} {mem : List Int} {n : Int} {a : Int} (w : World) (h : StoreAt w bs bl mem n) (ha : ¬ (0 ≤ a ∧ a < mem.length)) :
    Calls Try.prog 42 #[.pointer (some ⟨bs, 0, none⟩), .int .i64 a] w fun e w' => e = .returned (.pointer none) ∧ StoreAt w' bs bl mem (cnt n) ∧ Chg (fun k => k = bs) w w' := by
  obtain ⟨h1, h2, h3, h4, cap, rest, b1, b2⟩ := h
  have g0 := b1.cell 0
  have g1 := b1.cell 1
  have f1 := b1.free 1
  simp only [List.getElem?_cons_zero, List.getElem?_cons_succ] at g0 g1
  have hc : a < 0 ∨ (0 ≤ a ∧ (mem.length : Int) ≤ a) := by omega
  clear ha
  rcases hc with ha | ⟨ha, ha'⟩
  · go_enter Try.func42, Try.ntmps42
    go_wp2_with fail
    go_ret
    refine ⟨rfl, ⟨h1, h2, h3, h4, cap, rest, b1.set' 1 _ rfl, b2.setOther _ _ h1⟩, (Chg.refl _ _).setCell _ _ (fun _ => rfl)⟩
  · go_enter Try.func42, Try.ntmps42
    go_wp2_with fail
    go_ret
    refine ⟨rfl, ⟨h1, h2, h3, h4, cap, rest, b1.set' 1 _ rfl, b2.setOther _ _ h1⟩, (Chg.refl _ _).setCell _ _ (fun _ => rfl)⟩

theorem load_any {bs bl : Nat} {mem : List Int} {n : Int} (a : Int) (w : World) (h : StoreAt w bs bl mem n) :
    Calls Try.prog 15 #[.pointer (some ⟨bs, 0, none⟩), .int .i64 a] w fun e w' => e = .returned (.int .u64 (mget mem a)) ∧ StoreAt w' bs bl mem (cnt n) ∧ Chg (fun k => k = bs) w w' := by
  by_cases ha : 0 ≤ a ∧ a < mem.length
  · obtain ⟨i, rfl⟩ : ∃ i : Nat, a = i := ⟨a.toNat, by omega⟩
    have hi : i < mem.length := by omega
    rw [show mget mem i = mem[i]?.getD 0 from by unfold mget; rw [if_pos ha]; simp]
    clear ha
    go_enter Try.func15, Try.ntmps15
    go_wp2_with fail
    refine (word_in _ h hi).mono ?_; rintro e w' ⟨rfl, h', hc⟩
    obtain ⟨g1, g2, g3, g4, cap, rest, b1, b2⟩ := id h'
    have c := b2.cell i
    rw [store_word hi] at c
    go_wp2_with fail
    go_ret
    exact ⟨ret_int (by rw [List.getElem?_eq_getElem hi]; rfl), h', hc⟩
  · rw [show mget mem a = 0 from if_neg ha]
    go_enter Try.func15, Try.ntmps15
    go_wp2_with fail
    refine (word_out _ h ha).mono ?_; rintro e w' ⟨rfl, h', hc⟩
    go_wp2_with fail
    go_ret
    exact ⟨rfl, h', hc⟩

/-- The blocks of a memory. -/
abbrev MemB (bs bl : Nat) : Nat → Prop := fun k => k = bs ∨ k = bl

theorem Chg.memB {bs bl : Nat} {w w' : World} (h : Chg (fun k => k = bs) w w') : Chg (MemB bs bl) w w' := h.mono (fun _ _ e => .inl e)

theorem put_any {bs bl : Nat} {mem : List Int} {n : Int} (a x : Int) (w : World) (h : StoreAt w bs bl mem n) (hx : U x) :
    Calls Try.prog 60 #[.pointer (some ⟨bs, 0, none⟩), .int .i64 a, .int .u64 x] w fun e w' => e = .returned (.tuple #[]) ∧ StoreAt w' bs bl (mput mem a x) (cnt n) ∧ Chg (MemB bs bl) w w' := by
  by_cases ha : 0 ≤ a ∧ a < mem.length
  · obtain ⟨i, rfl⟩ : ∃ i : Nat, a = i := ⟨a.toNat, by omega⟩
    have hi : i < mem.length := by omega
    have HM : Hid (mput mem i x = mem.set i x) := by unfold Hid mput; rw [if_pos ha]; simp
    have HA : ∀ y ∈ mput mem i x, U y := mput_all h.all _ _ hx
    rw [HM.out] at HA ⊢
    clear ha
    go_enter Try.func60, Try.ntmps60
    go_wp2_with fail
    refine (word_in _ h hi).mono ?_; rintro e w' ⟨rfl, h', hc⟩
    obtain ⟨g1, g2, g3, g4, cap, rest, b1, b2⟩ := h'
    have c := b2.cell i
    rw [store_word hi] at c
    have f := b2.free i
    go_wp2_with fail
    go_end0
    refine ⟨rfl, ⟨g1, HA, by simpa using g3, by simpa using g4, cap, rest, ?_, b2.set' i _ (store_put hi)⟩, hc.memB.setCell _ _ (fun _ => .inr rfl)⟩
    have := b1.setOther ⟨bl, i, none⟩ (.int .u64 x) (Ne.symm g1)
    simpa using this
  · rw [show mput mem a x = mem from if_neg ha]
    go_enter Try.func60, Try.ntmps60
    go_wp2_with fail
    refine (word_out _ h ha).mono ?_; rintro e w' ⟨rfl, h', hc⟩
    go_wp2_with fail
    go_end0
    exact ⟨rfl, h', hc.memB⟩

theorem StoreAt.put {bs bl : Nat} {mem : List Int} {n : Int} {w : World} (h : StoreAt w bs bl mem n) {i : Nat} (hi : i < mem.length) {x : Int} (hx : U x) : StoreAt (w.setCell ⟨bl, i, none⟩ (.int .u64 x)) bs bl (mput mem i x) n := by
  have HA := mput_all h.all (i : Int) x hx
  rw [show mput mem i x = mem.set i x from by unfold mput; rw [if_pos (by omega)]; simp] at HA ⊢
  obtain ⟨g1, g2, g3, g4, cap, rest, b1, b2⟩ := h
  refine ⟨g1, HA, by simpa using g3, by simpa using g4, cap, rest, ?_, b2.set' i _ (store_put hi)⟩
  have := b1.setOther ⟨bl, i, none⟩ (.int .u64 x) (Ne.symm g1)
  simpa using this

theorem StoreAt.word {bs bl : Nat} {mem : List Int} {n : Int} {w : World} (h : StoreAt w bs bl mem n) {i : Nat} (hi : i < mem.length) : w.cell? ⟨bl, i, none⟩ = some (.int .u64 (mget mem i)) ∧ w.frozen? ⟨bl, i, none⟩ = false := by
  obtain ⟨g1, g2, g3, g4, cap, rest, b1, b2⟩ := h
  have c := b2.cell i
  rw [store_word hi] at c
  rw [show mget mem i = mem[i]?.getD 0 from by unfold mget; rw [if_pos (by omega)]; simp]
  exact ⟨c, b2.free i⟩

theorem swap_hit {bs bl : Nat} {mem : List Int} {n : Int} (a old x : Int) (w : World) (h : StoreAt w bs bl mem n) (hx : U x) (ha : 0 ≤ a ∧ a < mem.length) (ho : mget mem a = old) :
    Calls Try.prog 67 #[.pointer (some ⟨bs, 0, none⟩), .int .i64 a, .int .u64 old, .int .u64 x] w fun e w' => e = .returned (.bool true) ∧ StoreAt w' bs bl (mput mem a x) (cnt n) ∧ Chg (MemB bs bl) w w' := by
  obtain ⟨i, rfl⟩ : ∃ i : Nat, a = i := ⟨a.toNat, by omega⟩
  have hi : i < mem.length := by omega
  go_enter Try.func67, Try.ntmps67
  go_wp2_with fail
  refine (word_in _ h hi).mono ?_; rintro e w' ⟨rfl, h', hc⟩
  obtain ⟨c, f⟩ := h'.word hi
  rw [ho] at c
  clear ho ha
  go_wp2_with fail
  go_ret
  exact ⟨rfl, h'.put hi hx, hc.memB.setCell _ _ (fun _ => .inr rfl)⟩

theorem swap_miss {bs bl : Nat} {mem : List Int} {n : Int} (a old x : Int) (w : World) (h : StoreAt w bs bl mem n) (ha : 0 ≤ a ∧ a < mem.length) (ho : mget mem a ≠ old) :
    Calls Try.prog 67 #[.pointer (some ⟨bs, 0, none⟩), .int .i64 a, .int .u64 old, .int .u64 x] w fun e w' => e = .returned (.bool false) ∧ StoreAt w' bs bl mem (cnt n) ∧ Chg (MemB bs bl) w w' := by
  obtain ⟨i, rfl⟩ : ∃ i : Nat, a = i := ⟨a.toNat, by omega⟩
  have hi : i < mem.length := by omega
  have hne : (mget mem i == old) = false := by simpa using ho
  generalize hG : mget mem i = g at *
  go_enter Try.func67, Try.ntmps67
  go_wp2_with fail
  refine (word_in _ h hi).mono ?_; rintro e w' ⟨rfl, h', hc⟩
  obtain ⟨c, f⟩ := h'.word hi
  rw [hG] at c
  clear ha hG
  go_wp2_with fail
  go_ret
  exact ⟨rfl, h', hc.memB⟩

theorem swap_out {bs bl : Nat} {mem : List Int} {n : Int} (a old x : Int) (w : World) (h : StoreAt w bs bl mem n) (ha : ¬ (0 ≤ a ∧ a < mem.length)) :
    Calls Try.prog 67 #[.pointer (some ⟨bs, 0, none⟩), .int .i64 a, .int .u64 old, .int .u64 x] w fun e w' => e = .returned (.bool false) ∧ StoreAt w' bs bl mem (cnt n) ∧ Chg (MemB bs bl) w w' := by
  go_enter Try.func67, Try.ntmps67
  go_wp2_with fail
  refine (word_out _ h ha).mono ?_; rintro e w' ⟨rfl, h', hc⟩
  go_wp2_with fail
  go_ret
  exact ⟨rfl, h', hc.memB⟩

/-- Is a word one? -/
def mhit (mem : List Int) (a old : Int) : Bool := decide (0 ≤ a ∧ a < mem.length) && decide (mget mem a = old)

theorem swap_any {bs bl : Nat} {mem : List Int} {n : Int} (a old x : Int) (w : World) (h : StoreAt w bs bl mem n) (hx : U x) :
    Calls Try.prog 67 #[.pointer (some ⟨bs, 0, none⟩), .int .i64 a, .int .u64 old, .int .u64 x] w fun e w' => e = .returned (.bool (mhit mem a old)) ∧ StoreAt w' bs bl (if mhit mem a old then mput mem a x else mem) (cnt n) ∧ Chg (MemB bs bl) w w' := by
  by_cases ha : 0 ≤ a ∧ a < mem.length
  · by_cases ho : mget mem a = old
    · rw [show mhit mem a old = true from by unfold mhit; rw [decide_eq_true ha, decide_eq_true ho]; rfl]
      exact swap_hit a old x w h hx ha ho
    · rw [show mhit mem a old = false from by unfold mhit; rw [decide_eq_false ho, Bool.and_false]]
      exact swap_miss a old x w h ha ho
  · rw [show mhit mem a old = false from by unfold mhit; rw [decide_eq_false ha, Bool.false_and]]
    exact swap_out a old x w h ha

end Go.Proofs.Ytchlbdfapgeebaa
