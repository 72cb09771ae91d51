/- A mutator's tasks that nobody else has seen: a buffer, and its machines, are made; what a step did: walked. -/
import Derived.Test.YtapdpclgbpgklaaBuf3
import Derived.Test.YtapdpclgbpgklaaCell2
namespace Go.Proofs.Ytapdpclgbpgklaa
open Go.RowKit

/-- A buffer without a machine; it owns O. -/
structure BfAt (w : World) (bb bm bs bl base : Nat) (ts : List Int) (O : Nat → Prop) : Prop where
  all : ∀ y ∈ ts, U y
  own : ∀ k, O k → k < w.heap.size ∧ k ≠ bs ∧ k ≠ bl
  bin : O bb
  bbase : bb < base ∧ base ≤ w.heap.size
  ex : ∃ tv, Blk w bb 80 [.pointer (some ⟨bm, 0, none⟩), tv] ∧ w.ownsRow base 45 1 tv ts.length (ts.map (Value.int .u64)) ∧ ∀ g, tv.ownBlock = some g → O g

theorem BuAt.buf {w : World} {x bb bm bs bl base : Nat} {ts : List Int} {s : BS} {O : Nat → Prop} (h : BuAt w x bb bm bs bl base ts s O) : BfAt w bb bm bs bl base ts O := by
  obtain ⟨all, own, xin, bin, xb, bbase, tv, cp, pp, hb, hr, hx, hgo, h1, h2⟩ := h
  exact ⟨all, own, bin, bbase, tv, hb, hr, fun g e => (hgo g e).1⟩

theorem BfAt.chg {w w' : World} {S : Nat → Prop} {bb bm bs bl base : Nat} {ts : List Int} {O : Nat → Prop} (h : BfAt w bb bm bs bl base ts O) (k : Chg S w w') (hS : ∀ q, O q → ¬ S q) : BfAt w' bb bm bs bl base ts O := by
  obtain ⟨all, own, bin, bbase, tv, hb, hr, hg⟩ := h
  exact ⟨all, fun q hq => ⟨Nat.lt_of_lt_of_le (own q hq).1 k.size, (own q hq).2⟩, bin, ⟨bbase.1, Nat.le_trans bbase.2 k.size⟩, tv, k.blk hb (hS _ bin), ownsRow_chg hr k (fun q hq => hS _ (hg q hq)), hg⟩

theorem BfAt.more {w : World} {bb bm bs bl base : Nat} {ts : List Int} {O O' : Nat → Prop} (h : BfAt w bb bm bs bl base ts O) (hO : ∀ k, O k → O' k) (hO' : ∀ k, O' k → k < w.heap.size ∧ k ≠ bs ∧ k ≠ bl) : BfAt w bb bm bs bl base ts O' := by
  obtain ⟨all, own, bin, bbase, tv, hb, hr, hg⟩ := h
  exact ⟨all, hO', hO _ bin, bbase, tv, hb, hr, fun g e => hO _ (hg g e)⟩

/-- A machine that logs a node. -/
def logBS (c : Cfg) (v cycle : Int) : BS := ⟨if 1 ≤ v ∧ v ≤ nN c then .claims else .done, v, newCM v cycle, putAll [], Ev.zero⟩

/-- A machine that flushes. -/
def flushBS (ts : List Int) : BS := ⟨if ts = [] then .done else .puts, 0, newCM 0 0, putAll ts, Ev.zero⟩

theorem bufNew_any {bm bs bl : Nat} (w : World) (hbs : bs < w.heap.size) (hbl : bl < w.heap.size) :
    Calls Try.prog 12 #[.pointer (some ⟨bm, 0, none⟩)] w fun r w' => ∃ bb, r = .returned (.pointer (some ⟨bb, 0, none⟩)) ∧ BfAt w' bb bm bs bl (bb + 1) [] (NewB w w') ∧ w.heap.size ≤ bb ∧ Kept w w' := by
  have hb := Blk.new w 80 [.pointer (some ⟨bm, 0, none⟩), .slice none 0 0]
  have hk : Kept w (w.alloc (.cells ([.pointer (some ⟨bm, 0, none⟩), .slice none 0 0] : List Value).toArray 80)) := (Below.refl _ _).alloc (Nat.le_refl _) _
  go_enter Try.func12, Try.ntmps12
  go_wp2_with fail
  go_ret
  exact ⟨w.heap.size, rfl, ⟨fun y hy => (by cases hy), fun k hk => ⟨hk.2, by have := hk.1; omega, by have := hk.1; omega⟩, ⟨Nat.le_refl _, hb.lt⟩, ⟨by omega, hb.lt⟩, _, hb, World.ownsRow_nil _ _ _ _, fun g e => by cases e⟩, Nat.le_refl _, hk⟩

set_option maxRecDepth 8000 in
theorem blog_any {bb bm bs bl base B : Nat} {c : Cfg} {ts : List Int} {O : Nat → Prop} (v cycle : Int) (w : World) (hg : Good c) (h : BfAt w bb bm bs bl base ts O) (hm : MapAt w B bm c) (hB : B ≤ w.heap.size) (hc : U cycle) (hbs : bs < w.heap.size) (hbl : bl < w.heap.size) :
    Calls Try.prog 13 #[.pointer (some ⟨bb, 0, none⟩), .int .i64 v, .int .u64 cycle] w fun r w' => ∃ x, r = .returned (.pointer (some ⟨x, 0, none⟩)) ∧ BuAt w' x bb bm bs bl base ts (logBS c v cycle) (Grow O w w') ∧ w.heap.size ≤ x ∧ Kept w w' := by
  obtain ⟨all, own, bin, bbase, tv, hb, hr, hgo⟩ := h
  have hlb := (own bb bin).1
  have hx := Blk.new w 85 (bsL bb v (.pointer none) (.pointer none) Ev.zero .nilFunc)
  have hk : Kept w (w.alloc (.cells (bsL bb v (.pointer none) (.pointer none) Ev.zero .nilFunc).toArray 85)) := (Below.refl _ _).alloc (Nat.le_refl _) _
  have hb1 := hk.blk hb
  have hr1 := ownsRow_kept hr hk
  have hm1 := hm.kept hk hB
  have b0 := hb1.cell 0
  simp only [List.getElem?_cons_zero, List.getElem?_cons_succ] at b0
  have hbx : ∀ g, tv.ownBlock = some g → g < w.heap.size := fun g e => (own g (hgo g e)).1
  by_cases hv : 1 ≤ v ∧ v ≤ nN c
  · have hrm : 0 < room c v := by
      have h0 := room_zero (c := c) (v := v)
      have h1 := (room_bound c v).1
      rcases Int.lt_or_eq_of_le h1 with h | h
      · exact h
      · exact absurd (h0.1 h.symm) (by simpa using hv)
    have HL : Hid (logBS c v cycle = ⟨.claims, v, newCM v cycle, putAll [], Ev.zero⟩) := by unfold Hid logBS; rw [if_pos hv]
    clear hv
    go_enter Try.func13, Try.ntmps13
    go_wp2_with fail
    generalize hw1 : w.alloc (.cells (bsL bb v (.pointer none) (.pointer none) Ev.zero .nilFunc).toArray 85) = w1 at *
    have z1 : w1.heap.size = w.heap.size + 1 := by rw [← hw1]; simp
    clear hw1
    refine (mRoom_any v w1 hm1 hg).mono ?_; rintro r w2 ⟨rfl, rfl⟩
    go_wp2_with fail
    refine (claimNew_any v cycle w1 hc).mono ?_; rintro r w2 ⟨cb, rfl, hcm, z2, z3, hk2⟩
    have hx2 := hk2.blk hx
    have f2 := hx2.free 2
    have g2 := hx2.cell 2
    have f9 := hx2.free 9
    have g9 := hx2.cell 9
    simp only [List.getElem?_cons_zero, List.getElem?_cons_succ] at g2 g9
    go_wp2_with fail
    go_ret
    have hcx : Chg (fun k => k = w.heap.size) w2 ((w2.setCell ⟨w.heap.size, 2, none⟩ (.pointer (some ⟨cb, 0, none⟩))).setCell ⟨w.heap.size, 9, none⟩ ((BPc.claims).val w.heap.size)) := ((Chg.refl (fun k => k = w.heap.size) w2).setCell ⟨w.heap.size, 2, none⟩ _ (fun _ => rfl)).setCell ⟨w.heap.size, 9, none⟩ _ (fun _ => rfl)
    have hkk : Kept w ((w2.setCell ⟨w.heap.size, 2, none⟩ (.pointer (some ⟨cb, 0, none⟩))).setCell ⟨w.heap.size, 9, none⟩ ((BPc.claims).val w.heap.size)) := Below.setCell (Below.setCell (hk.trans' hk2) (p := ⟨w.heap.size, 2, none⟩) (Nat.le_refl _) _) (p := ⟨w.heap.size, 9, none⟩) (Nat.le_refl _) _
    have hz := hcx.size
    have hz2 := hk2.size
    refine ⟨w.heap.size, rfl, ?_, Nat.le_refl _, hkk⟩
    rw [HL.out]
    refine ⟨all, grow_ok own hkk.size hbs hbl, .inr ⟨Nat.le_refl _, ?_⟩, .inl bin, by omega, ⟨bbase.1, Nat.le_trans bbase.2 hkk.size⟩, tv, _, _, hcx.blk (hk2.blk hb1) (by show ¬ bb = w.heap.size; omega), ownsRow_chg (ownsRow_kept hr1 hk2) hcx (fun g e => by have := hbx g e; show ¬ g = w.heap.size; omega), (hx2.set' 2 _ rfl).set' 9 _ rfl, fun g e => ⟨.inl (hgo g e), by have := hbx g e; omega⟩, fun _ => ⟨rfl, cb, rfl, hcm.chg hcx (by show ¬ cb = w.heap.size; omega), .inr ⟨by omega, Nat.lt_of_lt_of_le z3 hz⟩, by omega, by omega, fun g e => by have := hbx g e; omega⟩, fun e => by cases e⟩
    exact Nat.lt_of_lt_of_le (show w.heap.size < w2.heap.size by omega) hz
  · have hrm : room c v = 0 := room_zero.2 hv
    have HL : Hid (logBS c v cycle = ⟨.done, v, newCM v cycle, putAll [], Ev.zero⟩) := by unfold Hid logBS; rw [if_neg hv]
    have HR : Hid (room c v = 0) := hrm
    clear hv hrm
    go_enter Try.func13, Try.ntmps13
    go_wp2_with fail
    refine (mRoom_any v _ hm1 hg).mono ?_; rintro r w2 ⟨rfl, rfl⟩
    rw [HR.out]
    go_wp2_with fail
    go_ret
    refine ⟨w.heap.size, rfl, ?_, Nat.le_refl _, hk⟩
    rw [HL.out]
    exact ⟨all, grow_ok own hk.size hbs hbl, .inr ⟨Nat.le_refl _, hx.lt⟩, .inl bin, by omega, ⟨bbase.1, Nat.le_trans bbase.2 hk.size⟩, tv, _, _, hb1, hr1, hx, fun g e => ⟨.inl (hgo g e), by have := hbx g e; omega⟩, fun e => (by cases e), fun e => by cases e⟩

set_option maxRecDepth 8000 in
theorem bflush_any {bb bm bs bl base B : Nat} {c : Cfg} {ts : List Int} {O : Nat → Prop} {mem : List Int} {n : Int} (w : World) (h : BfAt w bb bm bs bl base ts O) (hle : ts.length < 1000) (hs : StoreAt w bs bl mem n) (hm : MapAt w B bm c) (hB : B ≤ w.heap.size) :
    Calls Try.prog 24 #[.pointer (some ⟨bb, 0, none⟩)] w fun r w' => ∃ x, r = .returned (.pointer (some ⟨x, 0, none⟩)) ∧ BuAt w' x bb bm bs bl base ts (flushBS ts) (Grow O w w') ∧ w.heap.size ≤ x ∧ Kept w w' := by
  obtain ⟨all, own, bin, bbase, tv, hb, hr, hgo⟩ := h
  obtain ⟨hbs, hbl⟩ := hs.lt
  have hlb := (own bb bin).1
  have hx := Blk.new w 85 (bsL bb 0 (.pointer none) (.pointer none) Ev.zero .nilFunc)
  have hk : Kept w (w.alloc (.cells (bsL bb 0 (.pointer none) (.pointer none) Ev.zero .nilFunc).toArray 85)) := (Below.refl _ _).alloc (Nat.le_refl _) _
  have hb1 := hk.blk hb
  have hr1 := ownsRow_kept hr hk
  have hm1 := hm.kept hk hB
  have hs1 := hs.kept hk
  have b0 := hb1.cell 0
  simp only [List.getElem?_cons_zero, List.getElem?_cons_succ] at b0
  have hbx : ∀ g, tv.ownBlock = some g → g < w.heap.size := fun g e => (own g (hgo g e)).1
  have hz : (w.alloc (.cells (bsL bb 0 (.pointer none) (.pointer none) Ev.zero .nilFunc).toArray 85)).heap.size = w.heap.size + 1 := by simp
  by_cases he : ts = []
  · subst he
    have F := bflush_none _ hx hb1 hr1 (by omega)
    go_enter Try.func24, Try.ntmps24
    go_wp2_with fail
    refine F.mono ?_; rintro r w2 ⟨rfl, hx2, hc2⟩
    go_wp2_with fail
    go_ret
    have hkk : Kept w w2 := hk.trans (hc2.toBelow (by omega) (fun q hq e => by omega))
    exact ⟨w.heap.size, rfl, ⟨all, grow_ok own hkk.size hbs hbl, .inr ⟨Nat.le_refl _, hx2.lt⟩, .inl bin, by omega, ⟨bbase.1, Nat.le_trans bbase.2 hkk.size⟩, tv, _, _, hc2.blk hb1 (by show ¬ bb = w.heap.size; omega), ownsRow_chg hr1 hc2 (fun g e => by have := hbx g e; show ¬ g = w.heap.size; omega), hx2, fun g e => ⟨.inl (hgo g e), by have := hbx g e; omega⟩, fun e => (by cases e), fun e => by cases e⟩, Nat.le_refl _, hkk⟩
  · have hpos : 0 < ts.length := List.length_pos_iff.2 he
    have F := bflush_some _ hx hb1 hr1 all (by omega) hpos hs1 hm1 (by omega) hB (by omega) (by omega) (by omega) (fun g e => by have := hbx g e; omega)
    have HF : Hid (flushBS ts = ⟨.puts, 0, newCM 0 0, putAll ts, Ev.zero⟩) := by unfold Hid flushBS; rw [if_neg he]
    clear he
    go_enter Try.func24, Try.ntmps24
    go_wp2_with fail
    refine F.mono ?_; rintro r w2 ⟨rfl, pb, pbi, pgt, hx2, hp2, y1, y2, y3, y4, hc2⟩
    go_wp2_with fail
    go_ret
    have hkk : Kept w w2 := hk.trans (hc2.toBelow (by omega) (fun q hq e => by omega))
    have y5 : pb < w2.heap.size := by obtain ⟨_, _, hbb, _⟩ := hp2.ex; exact hbb.lt
    have y6 : pbi < w2.heap.size := by obtain ⟨_, _, _, _, hin⟩ := hp2.ex; obtain ⟨_, ⟨_, _, hq⟩, _⟩ := hin trivial; exact hq.lt
    refine ⟨w.heap.size, rfl, ?_, Nat.le_refl _, hkk⟩
    rw [HF.out]
    refine ⟨all, grow_ok own hkk.size hbs hbl, .inr ⟨Nat.le_refl _, hx2.lt⟩, .inl bin, by omega, ⟨bbase.1, Nat.le_trans bbase.2 hkk.size⟩, tv, _, _, hc2.blk hb1 (by show ¬ bb = w.heap.size; omega), ownsRow_chg hr1 hc2 (fun g e => by have := hbx g e; show ¬ g = w.heap.size; omega), hx2, fun g e => ⟨.inl (hgo g e), by have := hbx g e; omega⟩, fun e => (by cases e), fun _ => ⟨rfl, ⟨fun _ => ⟨rfl, by simp; omega⟩, fun e => by cases e⟩, pb, pbi, pgt, rfl, hp2, ⟨.inr ⟨by omega, y5⟩, .inr ⟨by omega, y6⟩, .inr ⟨by omega, y4⟩⟩, ⟨by omega, by omega, by omega⟩, ⟨by omega, by omega, by omega⟩, fun g e => ⟨by have := hbx g e; omega, by have := hbx g e; omega, by have := hbx g e; omega⟩⟩⟩

theorem bevent_any {x bb bm bs bl base : Nat} {ts : List Int} {s : BS} {O : Nat → Prop} (w : World) (h : BuAt w x bb bm bs bl base ts s O) :
    Calls Try.prog 27 #[.pointer (some ⟨x, 0, none⟩)] w fun r w' => r = .returned (.agg #[.int .i64 s.ev.k, .int .i64 s.ev.who, .int .i64 s.ev.a, .int .i64 s.ev.b, .int .i64 s.ev.c]) ∧ Kept w w' := by
  obtain ⟨tv, cp, pp, hb, hr, hx, _⟩ := h.ex
  have hne := hx.lt
  have k4 := hx.cell 4
  have k5 := hx.cell 5
  have k6 := hx.cell 6
  have k7 := hx.cell 7
  have k8 := hx.cell 8
  simp only [List.getElem?_cons_zero, List.getElem?_cons_succ] at k4 k5 k6 k7 k8
  have hx1 := hx.alloc (.cells #[.int .i64 0, .int .i64 0, .int .i64 0, .int .i64 0, .int .i64 0] 60)
  have j4 := hx1.cell 4
  have j5 := hx1.cell 5
  have j6 := hx1.cell 6
  have j7 := hx1.cell 7
  have j8 := hx1.cell 8
  simp only [List.getElem?_cons_zero, List.getElem?_cons_succ] at j4 j5 j6 j7 j8
  have hk : Kept w (w.alloc (.cells #[.int .i64 0, .int .i64 0, .int .i64 0, .int .i64 0, .int .i64 0] 60)) := (Below.refl _ _).alloc (Nat.le_refl _) _
  go_enter Try.func27, Try.ntmps27
  go_wp2_with fail
  have hb2 := Blk.new w 60 [.int .i64 s.ev.k, .int .i64 s.ev.who, .int .i64 s.ev.a, .int .i64 s.ev.b, .int .i64 s.ev.c]
  have hk2 : Kept w (w.alloc (.cells (([.int .i64 s.ev.k, .int .i64 s.ev.who, .int .i64 s.ev.a, .int .i64 s.ev.b, .int .i64 s.ev.c] : List Value).toArray) 60)) := (Below.refl _ _).alloc (Nat.le_refl _) _
  have c0 := hb2.cell 0
  have c1 := hb2.cell 1
  have c2 := hb2.cell 2
  have c3 := hb2.cell 3
  have c4 := hb2.cell 4
  simp only [List.getElem?_cons_zero, List.getElem?_cons_succ] at c0 c1 c2 c3 c4
  exact bodyPost_ret (v := .agg #[.int .i64 s.ev.k, .int .i64 s.ev.who, .int .i64 s.ev.a, .int .i64 s.ev.b, .int .i64 s.ev.c]) (by simp [results, Try.results27, go_sem, c0, c1, c2, c3, c4]) rfl ⟨rfl, hk2⟩

end Go.Proofs.Ytapdpclgbpgklaa
