/- A packet's machine that is finished at once: walked. A packet's machine is run: any step; so many steps: walked. The things of a stack: walked. -/
import Derived.Test.YtfbcadknimfhjaaGreatPkE
import Derived.Test.YtfbcadknimfhjaaGreatPkA
import Derived.ScopeJumps
namespace Go.Proofs.YtfbcadknimfhjaaGreat
open Go.RowKit

/-- A machine that is finished, and got a packet. -/
def PkGot (w : World) (b : Nat) (p : Int) : Prop := ∃ v0 v1 v2 v4, Blk w b 133 [v0, v1, v2, .int .i64 p, v4, .nilFunc]
/-- A machine that is finished, and got nothing. -/
abbrev PkNone (w : World) (b : Nat) : Prop := PkGot w b 0

theorem PkGot.kept {w w' : World} {b : Nat} {p : Int} (h : PkGot w b p) (k : Kept w w') : PkGot w' b p := by
  obtain ⟨v0, v1, v2, v4, hb⟩ := h
  exact ⟨v0, v1, v2, v4, k.blk hb⟩

theorem PkGot.chg {w w' : World} {b : Nat} {p : Int} {S : Nat → Prop} (h : PkGot w b p) (k : Chg S w w') (hn : ¬ S b) : PkGot w' b p := by
  obtain ⟨v0, v1, v2, v4, hb⟩ := h
  exact ⟨v0, v1, v2, v4, k.blk hb hn⟩

theorem PkGot.lt {w : World} {b : Nat} {p : Int} (h : PkGot w b p) : b < w.heap.size := by
  obtain ⟨v0, v1, v2, v4, hb⟩ := h
  exact hb.lt

theorem PmAt.got {w : World} {b bi gt bm bs bl : Nat} {s : PM} (h : PmAt w b bi gt bm bs bl s) (hp : s.pc = .done) : PkGot w b s.p := by
  obtain ⟨_, _, _, _, tv, iv, hb, _, _⟩ := h
  rw [hp] at hb
  exact ⟨_, _, _, _, hb⟩

theorem pstepNone {b : Nat} {p : Int} (w : World) (sp : Value) (h : PkGot w b p) :
    Calls Tryz.prog 91 #[.pointer (some ⟨b, 0, none⟩), sp] w fun e w' => e = .returned (.bool true) ∧ w = w' := by
  obtain ⟨v0, v1, v2, v4, hb⟩ := h
  have g5 := hb.cell 5
  simp only [List.getElem?_cons_zero, List.getElem?_cons_succ] at g5
  have hn0 := func_eql0
  go_enter Tryz.func91, Tryz.ntmps91
  go_wp2_with fail
  go_ret
  exact ⟨rfl, rfl⟩

theorem pstepNil (w : World) (sp : Value) :
    Calls Tryz.prog 91 #[.pointer none, sp] w fun e w' => e = .returned (.bool true) ∧ w = w' := by
  go_enter Tryz.func91, Tryz.ntmps91
  go_wp2_with fail
  go_ret
  exact ⟨rfl, rfl⟩

theorem append_nothing (ao : Option Addr) (cap : Nat) (W : World) : (Builtin.append_ #[41, 41] 41 #[.slice none 0 0, .slice ao 0 cap]).run Tryz.prog W = .ok (.slice none 0 0) W := by
  obtain ⟨i0, hi, hz0, hz1, hz2⟩ := info_parts info_u64
  have hf : (Builtin.firstCells i0.size 0 (.slice ao 0 cap)).run Tryz.prog W = .ok #[] W := by
    cases ao with
    | none => simp [Builtin.firstCells]
    | some a => exact run_firstCells_some W i0.size 0 a 0 cap [] (by simp) (by simp)
  simp [Builtin.append_, run_underlying Tryz.underlying41, sizeOf, typeInfo, zeroValue, hi, hz0, Builtin.lenOf, hf]

set_option maxHeartbeats 3200000 in
/-- A put of nothing. -/
theorem putEmpty (bp : Value) (hbp : bp = .pointer none ∨ ∃ bm, bp = .pointer (some ⟨bm, 0, none⟩)) (ao : Option Addr) (cap : Nat) (hao : ao = none → cap = 0) (w : World) :
    Calls Tryz.prog 73 #[bp, .slice ao 0 cap] w fun e w' => e = .returned (.pointer (some ⟨w.heap.size, 0, none⟩)) ∧ PkNone w' w.heap.size ∧ Kept w w' := by
  have hb := Blk.new w 133 [bp, .slice none 0 0, .int .i64 0, .int .i64 0, .pointer none, .nilFunc]
  have hk : Kept w (w.alloc (.cells ([bp, .slice none 0 0, .int .i64 0, .int .i64 0, .pointer none, .nilFunc] : List Value).toArray 133)) := (Below.refl _ _).alloc (Nat.le_refl _) _
  have k1 := hb.cell 1
  have f1 := hb.free 1
  simp only [List.getElem?_cons_zero, List.getElem?_cons_succ] at k1
  have happ := fun W => append_nothing ao cap W
  have hc0 : (0 : Int) ≤ cap := by omega
  have hm0 : min (0 : Int) 4 = 0 := by decide
  generalize hw1 : w.alloc (.cells ([bp, .slice none 0 0, .int .i64 0, .int .i64 0, .pointer none, .nilFunc] : List Value).toArray 133) = w1 at *
  have done : ∀ (w2 : World), (w2 = w1.setCell ⟨w.heap.size, 1, none⟩ (.slice none 0 0) ∨ w2 = w1.drew.setCell ⟨w.heap.size, 1, none⟩ (.slice none 0 0)) → PkNone w2 w.heap.size ∧ Kept w w2 := by
    rintro w2 (rfl | rfl)
    · exact ⟨⟨_, _, _, _, hb.set' 1 _ rfl⟩, Below.setCell hk (p := ⟨w.heap.size, 1, none⟩) (Nat.le_refl _) _⟩
    · exact ⟨⟨_, _, _, _, hb.drew.set' 1 _ rfl⟩, Below.setCell hk.drew (p := ⟨w.heap.size, 1, none⟩) (Nat.le_refl _) _⟩
  replace done : Hid _ := done
  rcases hbp with rfl | ⟨bm, rfl⟩ <;> cases ao
  · obtain rfl := hao rfl
    go_enter Tryz.func73, Tryz.ntmps73
    go_wp2_with fail
    clear hw1
    go_region_law (fail)
    all_goals go_wp2_with fail
    all_goals go_ret
    all_goals exact ⟨rfl, done.out _ (by first | exact .inl rfl | exact .inr rfl)⟩
  · go_enter Tryz.func73, Tryz.ntmps73
    go_wp2_with fail
    clear hw1
    go_region_law (fail)
    all_goals go_wp2_with fail
    all_goals go_ret
    all_goals exact ⟨rfl, done.out _ (by first | exact .inl rfl | exact .inr rfl)⟩
  · obtain rfl := hao rfl
    go_enter Tryz.func73, Tryz.ntmps73
    go_wp2_with fail
    clear hw1
    go_region_law (fail)
    all_goals go_wp2_with fail
    all_goals go_ret
    all_goals exact ⟨rfl, done.out _ (by first | exact .inl rfl | exact .inr rfl)⟩
  · go_enter Tryz.func73, Tryz.ntmps73
    go_wp2_with fail
    clear hw1
    go_region_law (fail)
    all_goals go_wp2_with fail
    all_goals go_ret
    all_goals exact ⟨rfl, done.out _ (by first | exact .inl rfl | exact .inr rfl)⟩

set_option maxRecDepth 8000 in
set_option maxHeartbeats 1600000 in
theorem putNil {ad : Addr} {cap : Nat} {ts : List Int} (w : World) (hcap : ts.length ≤ cap) (hcell : ∀ i u, (ts.map (Value.int .u64))[i]? = some u → w.cell? (ad.add i) = some u) (hadl : ad.block < w.heap.size)
    (hpos : 0 < ts.length) (hle : ts.length ≤ 1000) :
    Calls Tryz.prog 73 #[.pointer none, .slice (some ad) ts.length cap] w fun e w' => e = .returned (.pointer (some ⟨w.heap.size, 0, none⟩)) ∧ PkNone w' w.heap.size ∧ Kept w w' := by
  obtain ⟨i0, hi, hz0, hz1, hz2⟩ := info_parts info_u64
  obtain ⟨k, hk⟩ : ∃ k : Nat, k = min ts.length 4 := ⟨_, rfl⟩
  have HK : Hid (k = min ts.length 4) := hk
  have hmin : min (ts.length : Int) 4 = (k : Int) := by omega
  have hk0 : (0 : Int) ≤ k := by omega
  have hk1 : 0 < k := by omega
  have hk2 : (k : Int) ≤ cap := by omega
  have hkb : k ≤ 4 := by omega
  have hl4 : ((ts.take 4).map (Value.int .u64)).length = k := by simp; omega
  have HL : Hid (((ts.take 4).map (Value.int .u64)).length = k) := hl4
  clear hl4 hk
  have hb := Blk.new w 133 ([.pointer none, .slice none 0 0, .int .i64 0, .int .i64 0, .pointer none, .nilFunc] : List Value)
  have hk3 : Kept w (w.alloc (.cells ([.pointer none, .slice none 0 0, .int .i64 0, .int .i64 0, .pointer none, .nilFunc] : List Value).toArray 133)) := (Below.refl _ _).alloc (Nat.le_refl _) _
  go_enter Tryz.func73, Tryz.ntmps73
  go_wp2_with fail
  generalize hw1 : w.alloc (.cells ([.pointer none, .slice none 0 0, .int .i64 0, .int .i64 0, .pointer none, .nilFunc] : List Value).toArray 133) = w1 at *
  have hz : w1.heap.size = w.heap.size + 1 := by rw [← hw1]; simp
  have hcell1 : ∀ i u, ((ts.take 4).map (Value.int .u64))[i]? = some u → w1.cell? (ad.add i) = some u := by
    intro i u hu
    have h0 : (ts.map (Value.int .u64))[i]? = some u := by
      rw [List.map_take, List.getElem?_take] at hu
      split at hu
      · exact hu
      · cases hu
    have := hcell i u h0
    rw [← hw1, cell_alloc_far w _ (by rw [add_block]; exact hadl)]
    exact this
  clear hw1 hcell
  have k1 := hb.cell 1
  have f1 := hb.free 1
  simp only [List.getElem?_cons_zero, List.getElem?_cons_succ] at k1
  have h0 : w1.ownsRow w1.heap.size 25 1 (.slice none 0 0) 0 [] := World.ownsRow_nil _ _ _ _
  have hone : ∀ u ∈ (ts.take 4).map (Value.int .u64), u.oneCell' = true := by
    intro u hu
    obtain ⟨x, _, rfl⟩ := List.mem_map.1 hu
    rfl
  have h63 : 0 + k ≤ maxLen := by unfold maxLen; omega
  have hb8 : (0 + k) * 8 ≤ 140737488355328 := by omega
  go_region_law
    ((refine step_append_lies _ (by rfl) _ _ _ (by rfl) w1.heap.size 25 i0 _ 1 8 Tryz.underlying41 hi hz0 hz1 hz2 rfl (by omega) (.slice none 0 0) 0 [] (by rfl) h0.drew
        ad k cap ((ts.take 4).map (Value.int .u64)) (by rfl) (by rw [HL.out]; omega) hcell1 hone
        hk1 h63 hb8 (by simp) w1.heap.size (by simp) ?_; intro gt gcap w2 own2 hgrow hat hlt2
      have hb2 := Blk.grown (hb.drew) hgrow (by simp [Value.ownBlock])
      have k1' := hb2.cell 1
      have f1' := hb2.free 1
      simp only [List.getElem?_cons_zero, List.getElem?_cons_succ] at k1'))
  all_goals
    have hp0 : (0 : Int) < ts.length := by omega
    have own3 := ownsRow_setCell_below own2 (a := ⟨w.heap.size, 1, none⟩) (by simp; omega) (.slice (some ⟨gt, 0, none⟩) k gcap)
    have hb3 := hb2.set' 1 (.slice (some ⟨gt, 0, none⟩) k gcap) (l' := [.pointer none, .slice (some ⟨gt, 0, none⟩) k gcap, .int .i64 0, .int .i64 0, .pointer none, .nilFunc]) rfl
    have hkk : Kept w w2 := (hk3.drew).grown hgrow (by simp; omega) (fun g hg => absurd (show (none : Option Nat) = some g from hg) (by simp))
    have hk4 := Below.setCell hkk (p := ⟨w.heap.size, 1, none⟩) (Nat.le_refl _) (.slice (some ⟨gt, 0, none⟩) k gcap)
    generalize w2.setCell ⟨w.heap.size, 1, none⟩ (.slice (some ⟨gt, 0, none⟩) k gcap) = w4 at *
    clear own2 hb2 hgrow hkk hk3 k1' f1'
    go_wp2_with fail
    go_ret
    exact ⟨rfl, ⟨_, _, _, _, hb3⟩, hk4⟩

end Go.Proofs.YtfbcadknimfhjaaGreat

namespace Go.Proofs.YtfbcadknimfhjaaGreat
open Go.RowKit

/-- One access more, or none. -/
def cntIf (done : Bool) (n : Int) : Int := if done then n else cnt n

theorem pstep_all {b bi gt bm bs bl B : Nat} {c : Cfg} {s : PM} {mem : List Int} {n : Int} (w : World) (hg : Good c) (h : PmAt w b bi gt bm bs bl s) (hs : StoreAt w bs bl mem n) (hm : MapAt w B bm c) (hlt : gt < w.heap.size) (hok : PmOk s) :
    Calls Tryz.prog 91 #[.pointer (some ⟨b, 0, none⟩), .pointer (some ⟨bs, 0, none⟩)] w fun e w' => e = .returned (.bool (pmStep c mem s).2.pc.fin) ∧
      (∃ bi', PmAt w' b bi' gt bm bs bl (pmStep c mem s).2 ∧ (bi' = bi ∨ w.heap.size ≤ bi')) ∧ StoreAt w' bs bl (pmStep c mem s).1 (cntIf s.pc.fin n) ∧ Chg (PmB b bi bs bl) w w' := by
  cases hf : s.pc.fin
  · exact pstep_any w hg h hs hm hlt hok.fill hf
  · have hd := fin_iff.1 hf
    rw [pmStep_done hd]
    refine (pstepDone w _ h hd).mono ?_
    rintro e w2 ⟨rfl, rfl⟩
    exact ⟨ret_bool hf.symm, ⟨bi, h, .inl rfl⟩, hs, Chg.refl _ _⟩

theorem Chg.stepNew {b bi bi' bs bl : Nat} {w w1 w2 : World} (h : Chg (PmB b bi bs bl) w w1) (k : Chg (PmB b bi' bs bl) w1 w2) (hb : bi' = bi ∨ w.heap.size ≤ bi') : Chg (PmB b bi bs bl) w w2 :=
  h.thenNew k (fun i hi e => by
    rcases e with e | e | e | e
    · exact .inl e
    · rcases hb with hb | hb
      · exact .inr (.inl (by omega))
      · omega
    · exact .inr (.inr (.inl e))
    · exact .inr (.inr (.inr e)))

/-- A machine has been run: it, and memory, are so. -/
def PmRan (w w' : World) (b bi gt bm bs bl : Nat) (x : List Int × PM) : Prop := ∃ bi' n', PmAt w' b bi' gt bm bs bl x.2 ∧ (bi' = bi ∨ w.heap.size ≤ bi') ∧ StoreAt w' bs bl x.1 n'

end Go.Proofs.YtfbcadknimfhjaaGreat

namespace Go.Proofs.YtfbcadknimfhjaaGreat
open Go.RowKit

theorem rowU_cell {w : World} {v : Value} {mem : List Int} (hr : Row w v (mem.map (Value.int .u64))) (hp : 0 < mem.length) : ∃ g cap, v = .slice (some ⟨g, 0, none⟩) mem.length cap ∧ g < w.heap.size ∧ ∀ i, i < mem.length → w.cell? ⟨g, i, none⟩ = some (.int .u64 (mget mem i)) := by
  obtain ⟨ao, cap, rfl, hm, hc⟩ := hr.ex
  obtain ⟨g, rfl, hg, _⟩ := hc 0 (.int .u64 (mem[0]'hp)) (by simp [List.getElem?_eq_getElem hp])
  refine ⟨g, cap, by simp, hg, fun i hi => ?_⟩
  obtain ⟨g', he, _, h⟩ := hc i (.int .u64 (mget mem i)) (by
    unfold mget; rw [if_pos (by omega), List.getElem?_map, List.getElem?_eq_getElem hi]; simp [List.getElem?_eq_getElem hi])
  simp at he; subst he; exact h

theorem walk_step {lf : Int → Int} {mem : List Int} {n most : Nat} {p : Int} (h : n < most) (hc : 0 ≤ p ∧ p < mem.length ∧ loI (mget mem p) ≠ 0) :
    walkL lf mem (most - n) p = loI (mget mem p) :: walkL lf mem (most - (n + 1)) (lf (loI (mget mem p))) := by
  obtain ⟨k, hk⟩ : ∃ k, most - n = k + 1 := ⟨most - n - 1, by omega⟩
  rw [hk, show most - (n + 1) = k from by omega, walkL, if_pos hc]

theorem walk_stop {lf : Int → Int} {mem : List Int} {n most : Nat} {p : Int} (h : ¬ (n < most ∧ 0 ≤ p ∧ p < mem.length ∧ loI (mget mem p) ≠ 0)) : walkL lf mem (most - n) p = [] := by
  cases hk : most - n with
  | zero => rfl
  | succ k => rw [walkL, if_neg]; intro hc; exact h ⟨by omega, hc⟩

theorem own_slice {w : World} {base : Nat} {e : TypeId} {v : Value} {n : Nat} {xs : List Value} (h : w.ownsRow base e 1 v n xs) : ∃ ao cap, v = .slice ao n cap := by
  rcases h.2 with ⟨rfl, rfl⟩ | ⟨g, cap, cur, rfl, _⟩
  · exact ⟨none, 0, rfl⟩
  · exact ⟨_, _, rfl⟩

theorem ownsRow_chg {S : Nat → Prop} {w w' : World} {base : Nat} {e : TypeId} {size : Nat} {v : Value} {n : Nat} {xs : List Value} (h : w.ownsRow base e size v n xs) (k : Chg S w w') (hS : ∀ g, v.ownBlock = some g → ¬ S g) : w'.ownsRow base e size v n xs := by
  refine ⟨h.1, ?_⟩
  rcases h.2 with h0 | ⟨g, cap, cur, rfl, hb, hh, hr⟩
  · exact .inl h0
  · exact .inr ⟨g, cap, cur, rfl, hb, by rw [k.block g (lt_of_block hh) (hS g rfl)]; exact hh, hr⟩

def lenOf : Value → Nat
  | .slice _ n _ => n
  | _ => 0

set_option maxRecDepth 8000 in
set_option maxHeartbeats 1600000 in
theorem walk_any {B bm : Nat} {c : Cfg} {mem : List Int} {v : Value} {head : Int} {most : Nat} (w : World) (hg : Good c) (hm : MapAt w B bm c) (hB : B ≤ w.heap.size) (hr : Row w v (mem.map (Value.int .u64))) (hp : 0 < mem.length) (hle : mem.length ≤ 20000) (hall : ∀ x ∈ mem, U x) (hmost : most ≤ 4000) :
    Calls Tryz.prog 55 #[v, .int .i64 head, .func (.func 35) #[.pointer (some ⟨bm, 0, none⟩)] #[], .int .i64 most] w fun e w' => ∃ v', e = .returned v' ∧ w'.ownsRow w.heap.size 3 1 v' (walkL (lnk c) mem most head).length ((walkL (lnk c) mem most head).map (Value.int .i64)) ∧ Kept w w' := by
  obtain ⟨i0, hi, hz0, hz1, hz2⟩ := info_parts info_int
  obtain ⟨g, cap, rfl, hgl, hcell⟩ := rowU_cell hr hp
  have hlen0 : (0 : Int) ≤ mem.length := by omega
  go_enter Tryz.func55, Tryz.ntmps55
  go_wp2_with fail
  refine wp_scope_jumps 0 (fun a' w' => ∃ (vo : Value) (place : Int) (xs : List Int) (u11 u12 u13 u14 u15 u16 u17 u18 u19 u20 u21 u22 u23 u24 u25 u26 u27 u28 u29 u30 u31 u32 u33 u34 u35 u36 u37 u38 u39 u40 u41 : Value), a' = { tmps := #[.slice (some ⟨g, 0, none⟩) mem.length cap, .int .i64 head, .func (.func 35) #[.pointer (some ⟨bm, 0, none⟩)] #[], .int .i64 most, undef, undef, undef, undef, .slice none 0 0, vo, .int .i64 place, u11, u12, u13, u14, u15, u16, u17, u18, u19, u20, u21, u22, u23, u24, u25, u26, u27, u28, u29, u30, u31, u32, u33, u34, u35, u36, u37, u38, u39, u40, u41, undef], defers := [] } ∧
      w'.ownsRow w.heap.size 3 1 vo xs.length (xs.map (Value.int .i64)) ∧ Kept w w' ∧ xs.length ≤ most ∧ xs ++ walkL (lnk c) mem (most - xs.length) place = walkL (lnk c) mem most head) (fun a' _ => most - lenOf (a'.tmps.getD 9 undef)) rfl ?_ ?_
  · have own : w.ownsRow w.heap.size 3 1 (.slice none 0 0) 0 [] := World.ownsRow_nil _ _ _ _
    have hk : Kept w w := Below.refl _ _
    have hm0 : (0 : Int) < most ∨ ¬ (0 : Int) < most := by omega

    by_cases hin : (0 ≤ head ∧ head < mem.length) ∧ 0 < most ∧ loI (mget mem head) ≠ 0
    · obtain ⟨⟨hp0, hp1⟩, hlt, hne⟩ := hin
      have HW : Hid (walkL (lnk c) mem (most - 0) head = loI (mget mem head) :: walkL (lnk c) mem (most - (0 + 1)) (lnk c (loI (mget mem head)))) := walk_step hlt ⟨hp0, hp1, hne⟩
      have hci := (Below.cell hk hgl).trans (hcell (head).toNat (by omega))
      rw [show (((head).toNat : Nat) : Int) = head from by omega] at hci
      clear hcell
      have hU := mget_all hall head
      have hlo := loI_range (mget mem head)
      obtain ⟨hlo0, hlo1⟩ := hlo
      have x1 := wrap_u32_lo (mget mem head)
      have x2 := wrap_i64_u32 hlo0 hlo1
      have hneb : (loI (mget mem head) == 0) = false := by simpa using hne
      have hlt' : (0 : Int) < most := by omega
      have HA : Hid ((loI (mget mem head)) = (loI (mget mem head))) := rfl
      generalize loI (mget mem head) = r at *
      clear hU hne hlt
      go_wp2_with fail
      go_step3
      go_wp2_with (at_builtin; refine wpList_append_lies _ rfl _ _ 50 rfl w.heap.size 3 i0 (.int .i64 0) 1 8 Tryz.underlying50 hi hz0 hz1 hz2 rfl (by decide) _ _ _ rfl (own.alloc _) ⟨w.heap.size, 0, none⟩ 1 1 [.int .i64 r] rfl rfl ?a1 ?a2 (by omega) ?a3 ?a4 ?a5 _ rfl ?_)
      all_goals first
        | (intro j u hj; match j, hj with | 0, hj => (simp at hj; subst hj; simp [Addr.add]; done))
        | (intro u hu; simp at hu; subst hu; rfl)
        | rfl
        | (unfold maxLen; omega)
        | omega
        | (simp; done)
        | (have := hk.size; simp; omega)
        | (have := hk.size; omega)
        | skip
      intro gb cp w2 own2 hgrow _ _
      have hk2 : Kept w w2 := (hk.alloc hk.size _).grown hgrow (by have := hk.size; first | (simp; done) | (simp; omega)) (fun q hq => by have := (ownsRow_base own q hq).1; omega)
      have hm2 := hm.kept hk2 hB
      clear hgrow
      go_wp2_with fail
      refine (mLink_any r w2 hm2 hg).mono ?_; rintro e w3 ⟨rfl, rfl⟩
      go_wp2_with fail
      go_step3
      simp only [Exit.then]
      refine ⟨rfl, _, _, [r], _, _, _, _, _, _, _, _, _, _, _, _, _, _, _, _, _, _, _, _, _, _, _, _, _, _, _, _, _, _, _, rfl, by simpa using own2, hk2, by simp; omega, ?_⟩
      have := HW.out
      simp at this
      simpa using this.symm

    · skip
      · have HWs : Hid (walkL (lnk c) mem (most - 0) head = []) := walk_stop (fun h => hin ⟨⟨h.2.1, h.2.2.1⟩, h.1, h.2.2.2⟩)
        have hcx : 0 ≤ head → head < mem.length → w.cell? ⟨g, (head).toNat, none⟩ = some (.int .u64 (mget mem head)) := fun h1 h2 => by
          have := hcell (head).toNat (by omega)
          rw [show (((head).toNat : Nat) : Int) = head from by omega] at this
          exact this
        replace hcx : Hid _ := hcx
        replace hin : Hid _ := hin
        clear hcell
        by_cases k1 : 0 ≤ head
        · by_cases k2 : head < mem.length
          · by_cases k3 : (0 : Int) < most
            · have hci := (Below.cell hk hgl).trans (hcx.out k1 k2)
              have hz : loI (mget mem head) = 0 := by
                have := hin.out
                by_cases hz : loI (mget mem head) = 0
                · exact hz
                · exact absurd ⟨⟨k1, k2⟩, by omega, hz⟩ this
              have x1 := wrap_u32_lo (mget mem head)
              rw [hz] at x1
              have hU := mget_all hall head
              clear hz
              (go_wp2_with fail; go_step3); go_wp2_with fail
              (try simp only [Exit.jump]); go_ret; exact ⟨_, rfl, by have e := HWs.out; simp at e; rw [e]; exact own, hk⟩
            · (go_wp2_with fail; go_step3); go_wp2_with fail
              (try simp only [Exit.jump]); go_ret; exact ⟨_, rfl, by have e := HWs.out; simp at e; rw [e]; exact own, hk⟩
          · (go_wp2_with fail; go_step3); go_wp2_with fail
            (try simp only [Exit.jump]); go_ret; exact ⟨_, rfl, by have e := HWs.out; simp at e; rw [e]; exact own, hk⟩
        · (go_wp2_with fail; go_step3); go_wp2_with fail
          (try simp only [Exit.jump]); go_ret; exact ⟨_, rfl, by have e := HWs.out; simp at e; rw [e]; exact own, hk⟩

  · rintro a' wr ⟨vo, place, xs, u11, u12, u13, u14, u15, u16, u17, u18, u19, u20, u21, u22, u23, u24, u25, u26, u27, u28, u29, u30, u31, u32, u33, u34, u35, u36, u37, u38, u39, u40, u41, rfl, own, hk, hxl, hx⟩
    have HX : Hid _ := hx
    clear hx
    obtain ⟨ao, cp0, rfl⟩ := own_slice own

    by_cases hin : (0 ≤ place ∧ place < mem.length) ∧ xs.length < most ∧ loI (mget mem place) ≠ 0
    · obtain ⟨⟨hp0, hp1⟩, hlt, hne⟩ := hin
      have HW : Hid (walkL (lnk c) mem (most - xs.length) place = loI (mget mem place) :: walkL (lnk c) mem (most - (xs.length + 1)) (lnk c (loI (mget mem place)))) := walk_step hlt ⟨hp0, hp1, hne⟩
      have hci := (Below.cell hk hgl).trans (hcell (place).toNat (by omega))
      rw [show (((place).toNat : Nat) : Int) = place from by omega] at hci
      clear hcell
      have hU := mget_all hall place
      have hlo := loI_range (mget mem place)
      obtain ⟨hlo0, hlo1⟩ := hlo
      have x1 := wrap_u32_lo (mget mem place)
      have x2 := wrap_i64_u32 hlo0 hlo1
      have hneb : (loI (mget mem place) == 0) = false := by simpa using hne
      have hlt' : (xs.length : Int) < most := by omega
      have HA : Hid ((loI (mget mem place)) = (loI (mget mem place))) := rfl
      generalize loI (mget mem place) = r at *
      clear hU hne hlt
      go_wp2_with (at_builtin; refine wpList_append_lies _ rfl _ _ 50 rfl w.heap.size 3 i0 (.int .i64 0) 1 8 Tryz.underlying50 hi hz0 hz1 hz2 rfl (by decide) _ _ _ rfl (own.alloc _) ⟨wr.heap.size, 0, none⟩ 1 1 [.int .i64 r] rfl rfl ?b1 ?b2 (by omega) ?b3 ?b4 ?b5 _ rfl ?_)
      all_goals first
        | (intro j u hj; match j, hj with | 0, hj => (simp at hj; subst hj; simp [Addr.add]; done))
        | (intro u hu; simp at hu; subst hu; rfl)
        | rfl
        | (unfold maxLen; omega)
        | omega
        | (simp; done)
        | (have := hk.size; simp; omega)
        | (have := hk.size; omega)
        | skip
      intro gb cp w2 own2 hgrow _ _
      have hk2 : Kept w w2 := (hk.alloc hk.size _).grown hgrow (by have := hk.size; first | (simp; done) | (simp; omega)) (fun q hq => by have := (ownsRow_base own q hq).1; omega)
      have hm2 := hm.kept hk2 hB
      clear hgrow
      go_wp2_with fail
      refine (mLink_any r w2 hm2 hg).mono ?_; rintro e w3 ⟨rfl, rfl⟩
      go_wp2_with fail
      go_step3
      simp only [Exit.then]
      have HXo := HX.out
      have HWo := HW.out
      refine ⟨rfl, ⟨_, _, xs ++ [r], _, _, _, _, _, _, _, _, _, _, _, _, _, _, _, _, _, _, _, _, _, _, _, _, _, _, _, _, _, _, _, rfl, by simpa using own2, hk2, by simp; omega, ?_⟩, ?_⟩
      · rw [← HXo, HWo]; simp
      · simp [lenOf]; omega

    · skip
      · have HWs : Hid (walkL (lnk c) mem (most - xs.length) place = []) := walk_stop (fun h => hin ⟨⟨h.2.1, h.2.2.1⟩, h.1, h.2.2.2⟩)
        have hcx : 0 ≤ place → place < mem.length → w.cell? ⟨g, (place).toNat, none⟩ = some (.int .u64 (mget mem place)) := fun h1 h2 => by
          have := hcell (place).toNat (by omega)
          rw [show (((place).toNat : Nat) : Int) = place from by omega] at this
          exact this
        replace hcx : Hid _ := hcx
        replace hin : Hid _ := hin
        clear hcell
        by_cases k1 : 0 ≤ place
        · by_cases k2 : place < mem.length
          · by_cases k3 : (xs.length : Int) < most
            · have hci := (Below.cell hk hgl).trans (hcx.out k1 k2)
              have hz : loI (mget mem place) = 0 := by
                have := hin.out
                by_cases hz : loI (mget mem place) = 0
                · exact hz
                · exact absurd ⟨⟨k1, k2⟩, by omega, hz⟩ this
              have x1 := wrap_u32_lo (mget mem place)
              rw [hz] at x1
              have hU := mget_all hall place
              clear hz
              go_wp2_with fail
              (try simp only [Exit.jump]); go_ret; exact ⟨_, rfl, by rw [← HX.out, HWs.out, List.append_nil]; exact own, hk⟩
            · go_wp2_with fail
              (try simp only [Exit.jump]); go_ret; exact ⟨_, rfl, by rw [← HX.out, HWs.out, List.append_nil]; exact own, hk⟩
          · go_wp2_with fail
            (try simp only [Exit.jump]); go_ret; exact ⟨_, rfl, by rw [← HX.out, HWs.out, List.append_nil]; exact own, hk⟩
        · go_wp2_with fail
          (try simp only [Exit.jump]); go_ret; exact ⟨_, rfl, by rw [← HX.out, HWs.out, List.append_nil]; exact own, hk⟩


end Go.Proofs.YtfbcadknimfhjaaGreat
