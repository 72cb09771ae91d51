/- A marker's deque: what its machine does when it pops: walked. -/
import Derived.Test.YtapdpclgbpgklaaGreatPkDeq
namespace Go.Proofs.YtapdpclgbpgklaaGreat
open Go.RowKit

set_option maxRecDepth 8000 in
theorem dqPopBottom_does {b q1 q2 bs bl : Nat} {e : DEnds} {d : DQ} {mem : List Int} {n : Int} (w : World) (h : DqAt w b q1 q2 e d) (hs : StoreAt w bs bl mem n) (h1 : b ≠ bs) (h2 : b ≠ bl) (hp : d.pc = .popBottom) :
    Calls Tryz.prog 144 #[.pointer (some ⟨b, 0, none⟩), .pointer (some ⟨bs, 0, none⟩)] w fun r w' => r = .returned (.tuple #[]) ∧ DqAt w' b q1 q2 e (dqStep e mem d).2 ∧ StoreAt w' bs bl (dqStep e mem d).1 (cnt n) ∧ Chg (DqB b bs bl) w w' := by
  obtain ⟨ap, ⟨u1, u2, u3⟩, eok, hb, _⟩ := h
  have hU := mget_all hs.all e.bt
  simp only [dqStep, hp] at hb ⊢
  have hx : U ((mget mem e.bt - 1) % 18446744073709551616) := by unfold U; omega
  have x1 : IntKind.u64.wrap (mget mem e.bt - 1) = (mget mem e.bt - 1) % 18446744073709551616 := IntKind.wrap_u64 _
  generalize (mget mem e.bt - 1) % 18446744073709551616 = v at *
  generalize hm : mget mem e.bt = mb at *
  have HM : Hid (mget mem e.bt = mb) := hm
  clear hm
  have g1 := hb.cell 1
  simp only [List.getElem?_cons_zero, List.getElem?_cons_succ] at g1
  go_enter Tryz.func144, Tryz.ntmps144
  go_wp2_with fail
  refine (load_any e.bt w hs).mono ?_; rintro r w2 ⟨rfl, hs2, hc2⟩
  rw [HM.out]
  have hb2 := hc2.blk hb h1
  have f5 := hb2.free 5
  have f4 := hb2.free 4
  have g5 := hb2.cell 5
  have g4 := hb2.cell 4
  simp only [List.getElem?_cons_zero, List.getElem?_cons_succ] at g5 g4
  go_wp2_with fail
  go_end0
  have hcb : Chg (fun k => k = b) w2 ((w2.setCell ⟨b, 5, none⟩ (.int .u64 v)).setCell ⟨b, 4, none⟩ ((DPc.popDown).val b q1 q2)) := ((Chg.refl (fun k => k = b) w2).setCell ⟨b, 5, none⟩ _ (fun _ => rfl)).setCell ⟨b, 4, none⟩ _ (fun _ => rfl)
  exact ⟨rfl, ⟨ap, ⟨hx, u2, u3⟩, eok, (hb2.set' 5 _ rfl).set' 4 _ rfl, fun _ e => by cases e⟩, hs2.chg hcb (Ne.symm h1) (Ne.symm h2), (hc2.mono (fun _ _ e => .inr (.inl e))).trans (hcb.mono (fun _ _ e => .inl e))⟩

/-- The first step goes by a closure. -/
theorem dqPopBegun_does {b q1 q2 bs bl : Nat} {e : DEnds} {d : DQ} {mem : List Int} {n : Int} (w : World) (h : DqAt w b q1 q2 e d) (hs : StoreAt w bs bl mem n) (h1 : b ≠ bs) (h2 : b ≠ bl) (hp : d.pc = .popBottom) :
    Calls Tryz.prog 169 #[.pointer (some ⟨bs, 0, none⟩), .pointer (some ⟨q1, 0, none⟩), .pointer (some ⟨q2, 0, none⟩)] w fun r w' => r = .returned (.tuple #[]) ∧ DqAt w' b q1 q2 e (dqStep e mem d).2 ∧ StoreAt w' bs bl (dqStep e mem d).1 (cnt n) ∧ Chg (DqB b bs bl) w w' := by
  obtain ⟨k1, k2⟩ := h.box _ (show d.pc.first = some _ from by rw [hp]; rfl)
  have D := dqPopBottom_does w h hs h1 h2 hp
  generalize dqStep e mem d = rr at *
  have g1 := k1.cell 0
  have g2 := k2.cell 0
  simp only [List.getElem?_cons_zero] at g1 g2
  go_enter Tryz.func169, Tryz.ntmps169
  go_wp2_with fail
  refine D.mono ?_; rintro r w2 ⟨rfl, hd⟩
  go_wp2_with fail
  go_end0
  exact ⟨rfl, hd⟩

set_option maxRecDepth 8000 in
theorem dqDown_does {b q1 q2 bs bl : Nat} {e : DEnds} {d : DQ} {mem : List Int} {n : Int} (w : World) (h : DqAt w b q1 q2 e d) (hs : StoreAt w bs bl mem n) (h1 : b ≠ bs) (h2 : b ≠ bl) (hp : d.pc = .popDown) :
    Calls Tryz.prog 170 #[.pointer (some ⟨b, 0, none⟩), .pointer (some ⟨bs, 0, none⟩)] w fun r w' => r = .returned (.tuple #[]) ∧ DqAt w' b q1 q2 e (dqStep e mem d).2 ∧ StoreAt w' bs bl (dqStep e mem d).1 (cnt n) ∧ Chg (DqB b bs bl) w w' := by
  obtain ⟨ap, ⟨u1, u2, u3⟩, eok, hb, _⟩ := h
  simp only [dqStep, hp] at hb ⊢
  have g1 := hb.cell 1
  have g5 := hb.cell 5
  simp only [List.getElem?_cons_zero, List.getElem?_cons_succ] at g1 g5
  go_enter Tryz.func170, Tryz.ntmps170
  go_wp2_with fail
  go_region_held3 (fun w' => w'.cell? ⟨b, 1, none⟩ = some (.int .i64 e.bt) ∧ w'.cell? ⟨b, 5, none⟩ = some (.int .u64 d.b))
    (first | exact ⟨g1, g5⟩ | exact ⟨k1, k5⟩)
    (first
     | (go_at_call 16; refine (put_any e.bt d.b _ hs.drew u1).mono ?_; rintro r w3 ⟨rfl, hs3, hc3⟩
        have hb3 := hc3.blk hb.drew (show ¬ MemB bs bl b from fun e => e.elim h1 h2)
        have k1 := hb3.cell 1
        have k5 := hb3.cell 5
        simp only [List.getElem?_cons_zero, List.getElem?_cons_succ] at k1 k5))
  have hc5 : Chg (DqB b bs bl) w w3 := ((Chg.refl (DqB b bs bl) w).drew).trans (hc3.mono (fun _ _ e => .inr e))
  have f4 := hb3.free 4
  have g4 := hb3.cell 4
  simp only [List.getElem?_cons_zero, List.getElem?_cons_succ] at g4
  go_wp2_with fail
  go_end0
  have hcb : Chg (fun k => k = b) w3 (w3.setCell ⟨b, 4, none⟩ ((DPc.popTop).val b q1 q2)) := (Chg.refl (fun k => k = b) w3).setCell ⟨b, 4, none⟩ _ (fun _ => rfl)
  exact ⟨rfl, ⟨ap, ⟨u1, u2, u3⟩, eok, hb3.set' 4 _ rfl, fun _ e => by cases e⟩, hs3.chg hcb (Ne.symm h1) (Ne.symm h2), hc5.trans (hcb.mono (fun _ _ e => .inl e))⟩

set_option maxRecDepth 8000 in
theorem dqPopTop_does {b q1 q2 bs bl : Nat} {e : DEnds} {d : DQ} {mem : List Int} {n : Int} (w : World) (h : DqAt w b q1 q2 e d) (hs : StoreAt w bs bl mem n) (h1 : b ≠ bs) (h2 : b ≠ bl) (hp : d.pc = .popTop) :
    Calls Tryz.prog 187 #[.pointer (some ⟨b, 0, none⟩), .pointer (some ⟨bs, 0, none⟩)] w fun r w' => r = .returned (.tuple #[]) ∧ DqAt w' b q1 q2 e (dqStep e mem d).2 ∧ StoreAt w' bs bl (dqStep e mem d).1 (cnt n) ∧ Chg (DqB b bs bl) w w' := by
  obtain ⟨ap, ⟨⟨u1, u1'⟩, u2, u3⟩, eok, hb, _⟩ := h
  have hU := mget_all hs.all e.tp
  obtain ⟨hU0, hU1⟩ := hU
  simp only [dqStep, hp] at hb ⊢
  generalize ht : mget mem e.tp = tt at *
  generalize ha : aheadI tt d.b = aa at *
  have HA : Hid (aheadI tt d.b = aa) := ha
  have HT : Hid (mget mem e.tp = tt) := ht
  clear ha ht
  have g0 := hb.cell 0
  simp only [List.getElem?_cons_zero] at g0
  by_cases haz : aa > 0
  · have haz' : 0 < aa := haz
    rw [if_pos haz]
    go_enter Tryz.func187, Tryz.ntmps187
    go_wp2_with fail
    refine (load_any e.tp w hs).mono ?_; rintro r w2 ⟨rfl, hs2, hc2⟩
    rw [HT.out]
    have hb2 := hc2.blk hb h1
    have f6 := hb2.free 6
    have g6 := hb2.cell 6
    have f4 := hb2.free 4
    have g4 := hb2.cell 4
    simp only [List.getElem?_cons_zero, List.getElem?_cons_succ] at g6 g4
    go_wp2_with fail
    have hb3 : Blk ((w2.setCell ⟨b, 6, none⟩ (.int .u64 tt)).setCell ⟨b, 4, none⟩ ((DPc.popEntry).val b q1 q2)) b 221 (dqL e ((DPc.popEntry).val b q1 q2) d.b tt d.wd d.out d.won) := (hb2.set' 6 _ rfl).set' 4 _ rfl
    have hcb : Chg (fun k => k = b) w2 ((w2.setCell ⟨b, 6, none⟩ (.int .u64 tt)).setCell ⟨b, 4, none⟩ ((DPc.popEntry).val b q1 q2)) := ((Chg.refl (fun k => k = b) w2).setCell ⟨b, 6, none⟩ _ (fun _ => rfl)).setCell ⟨b, 4, none⟩ _ (fun _ => rfl)
    simp only [DPc.val] at hb3 hcb
    generalize ((w2.setCell ⟨b, 6, none⟩ (.int .u64 tt)).setCell ⟨b, 4, none⟩ (.func (.func 198) #[.pointer (some ⟨b, 0, none⟩)] #[])) = w3 at *
    clear f6 g6 f4 g4
    have q5 := hb3.cell 5
    have q6 := hb3.cell 6
    simp only [List.getElem?_cons_zero, List.getElem?_cons_succ] at q5 q6
    go_region_held3 (fun w' => w'.cell? ⟨b, 6, none⟩ = some (.int .u64 tt) ∧ w'.cell? ⟨b, 5, none⟩ = some (.int .u64 d.b)) (first | exact ⟨q6, q5⟩)
      (first | (go_at_call 192; refine (ahead_any tt d.b _ hU0 hU1 u1 u1').mono ?_; rintro r w4 ⟨rfl, rfl⟩; rw [HA.out]))
    all_goals
      have p4 := hb3.drew.free 4
      have q4 := hb3.drew.cell 4
      simp only [List.getElem?_cons_zero, List.getElem?_cons_succ] at q4
      go_wp2_with fail
      go_end0
      have hcc : Chg (fun k => k = b) w3 (w3.drew.setCell ⟨b, 4, none⟩ ((DPc.popBack).val b q1 q2)) := ((Chg.refl (fun k => k = b) w3).drew).setCell ⟨b, 4, none⟩ _ (fun _ => rfl)
      have hc7 := hcb.trans hcc
      exact ⟨rfl, ⟨ap, ⟨⟨u1, u1'⟩, ⟨hU0, hU1⟩, u3⟩, eok, hb3.drew.set' 4 _ rfl, fun _ e => by cases e⟩, hs2.chg hc7 (Ne.symm h1) (Ne.symm h2), (hc2.mono (fun _ _ e => .inr (.inl e))).trans (hc7.mono (fun _ _ e => .inl e))⟩
  · have haz' : ¬ 0 < aa := haz
    rw [if_neg haz]
    go_enter Tryz.func187, Tryz.ntmps187
    go_wp2_with fail
    refine (load_any e.tp w hs).mono ?_; rintro r w2 ⟨rfl, hs2, hc2⟩
    rw [HT.out]
    have hb2 := hc2.blk hb h1
    have f6 := hb2.free 6
    have g6 := hb2.cell 6
    have f4 := hb2.free 4
    have g4 := hb2.cell 4
    simp only [List.getElem?_cons_zero, List.getElem?_cons_succ] at g6 g4
    go_wp2_with fail
    have hb3 : Blk ((w2.setCell ⟨b, 6, none⟩ (.int .u64 tt)).setCell ⟨b, 4, none⟩ ((DPc.popEntry).val b q1 q2)) b 221 (dqL e ((DPc.popEntry).val b q1 q2) d.b tt d.wd d.out d.won) := (hb2.set' 6 _ rfl).set' 4 _ rfl
    have hcb : Chg (fun k => k = b) w2 ((w2.setCell ⟨b, 6, none⟩ (.int .u64 tt)).setCell ⟨b, 4, none⟩ ((DPc.popEntry).val b q1 q2)) := ((Chg.refl (fun k => k = b) w2).setCell ⟨b, 6, none⟩ _ (fun _ => rfl)).setCell ⟨b, 4, none⟩ _ (fun _ => rfl)
    simp only [DPc.val] at hb3 hcb
    generalize ((w2.setCell ⟨b, 6, none⟩ (.int .u64 tt)).setCell ⟨b, 4, none⟩ (.func (.func 198) #[.pointer (some ⟨b, 0, none⟩)] #[])) = w3 at *
    clear f6 g6 f4 g4
    have q5 := hb3.cell 5
    have q6 := hb3.cell 6
    simp only [List.getElem?_cons_zero, List.getElem?_cons_succ] at q5 q6
    go_region_held3 (fun w' => w'.cell? ⟨b, 6, none⟩ = some (.int .u64 tt) ∧ w'.cell? ⟨b, 5, none⟩ = some (.int .u64 d.b)) (first | exact ⟨q6, q5⟩)
      (first | (go_at_call 192; refine (ahead_any tt d.b _ hU0 hU1 u1 u1').mono ?_; rintro r w4 ⟨rfl, rfl⟩; rw [HA.out]))
    all_goals
      go_wp2_with fail
      go_end0
      have hc7 := hcb.drew
      exact ⟨rfl, ⟨ap, ⟨⟨u1, u1'⟩, ⟨hU0, hU1⟩, u3⟩, eok, hb3.drew, fun _ e => by cases e⟩, hs2.chg hc7 (Ne.symm h1) (Ne.symm h2), (hc2.mono (fun _ _ e => .inr (.inl e))).trans (hc7.mono (fun _ _ e => .inl e))⟩

set_option maxRecDepth 8000 in
theorem dqPopEntry_does {b q1 q2 bs bl : Nat} {e : DEnds} {d : DQ} {mem : List Int} {n : Int} (w : World) (h : DqAt w b q1 q2 e d) (hs : StoreAt w bs bl mem n) (h1 : b ≠ bs) (h2 : b ≠ bl) (hp : d.pc = .popEntry) :
    Calls Tryz.prog 198 #[.pointer (some ⟨b, 0, none⟩), .pointer (some ⟨bs, 0, none⟩)] w fun r w' => r = .returned (.tuple #[]) ∧ DqAt w' b q1 q2 e (dqStep e mem d).2 ∧ StoreAt w' bs bl (dqStep e mem d).1 (cnt n) ∧ Chg (DqB b bs bl) w w' := by
  obtain ⟨ap, ⟨⟨u1, u1'⟩, ⟨u2, u2'⟩, u3⟩, eok, hb, _⟩ := h
  have hV := mget_all hs.all (entI e d.b)
  simp only [dqStep, hp] at hb ⊢
  generalize ht : mget mem (entI e d.b) = vv at *
  generalize ha : aheadI d.b d.t = aa at *
  have HA : Hid (aheadI d.b d.t = aa) := ha
  have HT : Hid (mget mem (entI e d.b) = vv) := ht
  clear ha ht
  have g0 := hb.cell 0
  have g1 := hb.cell 1
  have g2 := hb.cell 2
  have g3 := hb.cell 3
  have g5 := hb.cell 5
  simp only [List.getElem?_cons_zero, List.getElem?_cons_succ] at g0 g1 g2 g3 g5
  by_cases haz : aa > 0
  · have haz' : 0 < aa := haz
    rw [if_pos haz]
    go_enter Tryz.func198, Tryz.ntmps198
    go_wp2_with fail
    go_region_held3 (fun w' => w'.cell? ⟨b, 0, none⟩ = some (.int .i64 e.tp) ∧ w'.cell? ⟨b, 1, none⟩ = some (.int .i64 e.bt) ∧ w'.cell? ⟨b, 2, none⟩ = some (.int .i64 e.en) ∧ w'.cell? ⟨b, 3, none⟩ = some (.int .i64 e.rm) ∧ w'.cell? ⟨b, 5, none⟩ = some (.int .u64 d.b))
      (first | exact ⟨g0, g1, g2, g3, g5⟩ | exact ⟨k0, k1, k2, k3, k5⟩ | exact ⟨j0, j1, j2, j3, j5⟩ | exact ⟨keepSet j0 (by simp), keepSet j1 (by simp), keepSet j2 (by simp), keepSet j3 (by simp), keepSet j5 (by simp)⟩ | exact ⟨keepCell j0 (by simp), keepCell j1 (by simp), keepCell j2 (by simp), keepCell j3 (by simp), keepCell j5 (by simp)⟩)
      (first
       | (go_at_call 201; refine (entry_any e d.b _ eok ⟨u1, u1'⟩).mono ?_; rintro r w2 ⟨rfl, hk2⟩
          have hb2 := hk2.blk hb.drew
          have k0 := hb2.cell 0
          have k1 := hb2.cell 1
          have k2 := hb2.cell 2
          have k3 := hb2.cell 3
          have k5 := hb2.cell 5
          simp only [List.getElem?_cons_zero, List.getElem?_cons_succ] at k0 k1 k2 k3 k5)
       | (go_at_call 41; refine (load_any (entI e d.b) _ (hs.drew.kept hk2)).mono ?_; rintro r w3 ⟨rfl, hs3, hc3⟩
          rw [HT.out]
          have hb3 := hc3.blk hb2 h1
          have j0 := hb3.cell 0
          have j1 := hb3.cell 1
          have j2 := hb3.cell 2
          have j3 := hb3.cell 3
          have j5 := hb3.cell 5
          have j7 := hb3.cell 7
          have fj7 := hb3.free 7
          have j4 := hb3.cell 4
          have fj4 := hb3.free 4
          simp only [List.getElem?_cons_zero, List.getElem?_cons_succ] at j0 j1 j2 j3 j5 j7 j4))
    have hc5 : Chg (DqB b bs bl) w w3 := ((Chg.refl (DqB b bs bl) w).drew).trans ((Chg.ofBelow (S := DqB b bs bl) hk2).trans (hc3.mono (fun _ _ e => .inr (.inl e))))
    go_wp2_with fail
    have hb4 : Blk ((w3.setCell ⟨b, 7, none⟩ (.int .u64 vv)).setCell ⟨b, 4, none⟩ ((DPc.popSwap).val b q1 q2)) b 221 (dqL e ((DPc.popSwap).val b q1 q2) d.b d.t vv d.out d.won) := (hb3.set' 7 _ rfl).set' 4 _ rfl
    have hcb : Chg (fun k => k = b) w3 ((w3.setCell ⟨b, 7, none⟩ (.int .u64 vv)).setCell ⟨b, 4, none⟩ ((DPc.popSwap).val b q1 q2)) := ((Chg.refl (fun k => k = b) w3).setCell ⟨b, 7, none⟩ _ (fun _ => rfl)).setCell ⟨b, 4, none⟩ _ (fun _ => rfl)
    simp only [DPc.val] at hb4 hcb
    generalize ((w3.setCell ⟨b, 7, none⟩ (.int .u64 vv)).setCell ⟨b, 4, none⟩ (.func (.func 205) #[.pointer (some ⟨b, 0, none⟩)] #[])) = w4 at *
    clear j0 j1 j2 j3 j5 j7 fj7 j4 fj4 k0 k1 k2 k3 k5 g0 g1 g2 g3 g5
    have q5 := hb4.cell 5
    have q6 := hb4.cell 6
    simp only [List.getElem?_cons_zero, List.getElem?_cons_succ] at q5 q6
    go_region_held3 (fun w' => w'.cell? ⟨b, 5, none⟩ = some (.int .u64 d.b) ∧ w'.cell? ⟨b, 6, none⟩ = some (.int .u64 d.t)) (first | exact ⟨q5, q6⟩)
      (first | (go_at_call 192; refine (ahead_any d.b d.t _ u1 u1' u2 u2').mono ?_; rintro r w5 ⟨rfl, rfl⟩; rw [HA.out]))
    all_goals
      go_wp2_with fail
      refine (dend_any 1 _ hb4.drew).mono ?_; rintro r w6 ⟨rfl, hb6, hc6⟩
      go_wp2_with fail
      go_end0
      have hc7 := hcb.drew.trans hc6
      exact ⟨rfl, ⟨ap, ⟨⟨u1, u1'⟩, ⟨u2, u2'⟩, hV⟩, eok, hb6, fun _ e => by cases e⟩, hs3.chg hc7 (Ne.symm h1) (Ne.symm h2), hc5.trans (hc7.mono (fun _ _ e => .inl e))⟩
  · have haz' : ¬ 0 < aa := haz
    rw [if_neg haz]
    go_enter Tryz.func198, Tryz.ntmps198
    go_wp2_with fail
    go_region_held3 (fun w' => w'.cell? ⟨b, 0, none⟩ = some (.int .i64 e.tp) ∧ w'.cell? ⟨b, 1, none⟩ = some (.int .i64 e.bt) ∧ w'.cell? ⟨b, 2, none⟩ = some (.int .i64 e.en) ∧ w'.cell? ⟨b, 3, none⟩ = some (.int .i64 e.rm) ∧ w'.cell? ⟨b, 5, none⟩ = some (.int .u64 d.b))
      (first | exact ⟨g0, g1, g2, g3, g5⟩ | exact ⟨k0, k1, k2, k3, k5⟩ | exact ⟨j0, j1, j2, j3, j5⟩ | exact ⟨keepSet j0 (by simp), keepSet j1 (by simp), keepSet j2 (by simp), keepSet j3 (by simp), keepSet j5 (by simp)⟩ | exact ⟨keepCell j0 (by simp), keepCell j1 (by simp), keepCell j2 (by simp), keepCell j3 (by simp), keepCell j5 (by simp)⟩)
      (first
       | (go_at_call 201; refine (entry_any e d.b _ eok ⟨u1, u1'⟩).mono ?_; rintro r w2 ⟨rfl, hk2⟩
          have hb2 := hk2.blk hb.drew
          have k0 := hb2.cell 0
          have k1 := hb2.cell 1
          have k2 := hb2.cell 2
          have k3 := hb2.cell 3
          have k5 := hb2.cell 5
          simp only [List.getElem?_cons_zero, List.getElem?_cons_succ] at k0 k1 k2 k3 k5)
       | (go_at_call 41; refine (load_any (entI e d.b) _ (hs.drew.kept hk2)).mono ?_; rintro r w3 ⟨rfl, hs3, hc3⟩
          rw [HT.out]
          have hb3 := hc3.blk hb2 h1
          have j0 := hb3.cell 0
          have j1 := hb3.cell 1
          have j2 := hb3.cell 2
          have j3 := hb3.cell 3
          have j5 := hb3.cell 5
          have j7 := hb3.cell 7
          have fj7 := hb3.free 7
          have j4 := hb3.cell 4
          have fj4 := hb3.free 4
          simp only [List.getElem?_cons_zero, List.getElem?_cons_succ] at j0 j1 j2 j3 j5 j7 j4))
    have hc5 : Chg (DqB b bs bl) w w3 := ((Chg.refl (DqB b bs bl) w).drew).trans ((Chg.ofBelow (S := DqB b bs bl) hk2).trans (hc3.mono (fun _ _ e => .inr (.inl e))))
    go_wp2_with fail
    have hb4 : Blk ((w3.setCell ⟨b, 7, none⟩ (.int .u64 vv)).setCell ⟨b, 4, none⟩ ((DPc.popSwap).val b q1 q2)) b 221 (dqL e ((DPc.popSwap).val b q1 q2) d.b d.t vv d.out d.won) := (hb3.set' 7 _ rfl).set' 4 _ rfl
    have hcb : Chg (fun k => k = b) w3 ((w3.setCell ⟨b, 7, none⟩ (.int .u64 vv)).setCell ⟨b, 4, none⟩ ((DPc.popSwap).val b q1 q2)) := ((Chg.refl (fun k => k = b) w3).setCell ⟨b, 7, none⟩ _ (fun _ => rfl)).setCell ⟨b, 4, none⟩ _ (fun _ => rfl)
    simp only [DPc.val] at hb4 hcb
    generalize ((w3.setCell ⟨b, 7, none⟩ (.int .u64 vv)).setCell ⟨b, 4, none⟩ (.func (.func 205) #[.pointer (some ⟨b, 0, none⟩)] #[])) = w4 at *
    clear j0 j1 j2 j3 j5 j7 fj7 j4 fj4 k0 k1 k2 k3 k5 g0 g1 g2 g3 g5
    have q5 := hb4.cell 5
    have q6 := hb4.cell 6
    simp only [List.getElem?_cons_zero, List.getElem?_cons_succ] at q5 q6
    go_region_held3 (fun w' => w'.cell? ⟨b, 5, none⟩ = some (.int .u64 d.b) ∧ w'.cell? ⟨b, 6, none⟩ = some (.int .u64 d.t)) (first | exact ⟨q5, q6⟩)
      (first | (go_at_call 192; refine (ahead_any d.b d.t _ u1 u1' u2 u2').mono ?_; rintro r w5 ⟨rfl, rfl⟩; rw [HA.out]))
    all_goals
      go_wp2_with fail
      go_end0
      have hc7 := hcb.drew
      exact ⟨rfl, ⟨ap, ⟨⟨u1, u1'⟩, ⟨u2, u2'⟩, hV⟩, eok, hb4.drew, fun _ e => by cases e⟩, hs3.chg hc7 (Ne.symm h1) (Ne.symm h2), hc5.trans (hc7.mono (fun _ _ e => .inl e))⟩

set_option maxRecDepth 8000 in
theorem dqSwap_does {b q1 q2 bs bl : Nat} {e : DEnds} {d : DQ} {mem : List Int} {n : Int} (w : World) (h : DqAt w b q1 q2 e d) (hs : StoreAt w bs bl mem n) (h1 : b ≠ bs) (h2 : b ≠ bl) (hp : d.pc = .popSwap) :
    Calls Tryz.prog 205 #[.pointer (some ⟨b, 0, none⟩), .pointer (some ⟨bs, 0, none⟩)] w fun r w' => r = .returned (.tuple #[]) ∧ DqAt w' b q1 q2 e (dqStep e mem d).2 ∧ StoreAt w' bs bl (dqStep e mem d).1 (cnt n) ∧ Chg (DqB b bs bl) w w' := by
  obtain ⟨ap, ⟨u1, u2, u3⟩, eok, hb, _⟩ := h
  simp only [dqStep, hp] at hb ⊢
  have hx : U ((d.t + 1) % 18446744073709551616) := by unfold U; omega
  have x1 : IntKind.u64.wrap (d.t + 1) = (d.t + 1) % 18446744073709551616 := IntKind.wrap_u64 _
  generalize (d.t + 1) % 18446744073709551616 = v at *
  generalize hh : mhit mem e.tp d.t = hit at *
  have HH : Hid (mhit mem e.tp d.t = hit) := hh
  clear hh
  cases hit
  · simp only [Bool.false_eq_true, ↓reduceIte]
    have g0 := hb.cell 0
    have g6 := hb.cell 6
    simp only [List.getElem?_cons_zero, List.getElem?_cons_succ] at g0 g6
    go_enter Tryz.func205, Tryz.ntmps205
    go_wp2_with fail
    go_region_held3 (fun w' => w'.cell? ⟨b, 0, none⟩ = some (.int .i64 e.tp) ∧ w'.cell? ⟨b, 6, none⟩ = some (.int .u64 d.t))
      (first | exact ⟨g0, g6⟩ | exact ⟨k0, k6⟩ | exact ⟨keepSet k0 (by simp), keepSet k6 (by simp)⟩ | exact ⟨keepCell k0 (by simp), keepCell k6 (by simp)⟩)
      (first
       | (go_at_call 194; refine (swap_any e.tp d.t v _ hs.drew hx).mono ?_; rintro r w3 ⟨rfl, hs3, hc3⟩
          rw [HH.out] at hs3 ⊢
          simp only [Bool.false_eq_true, ↓reduceIte] at hs3
          have hb3 := hc3.blk hb.drew (show ¬ MemB bs bl b from fun e => e.elim h1 h2)
          have k0 := hb3.cell 0
          have k6 := hb3.cell 6
          have k9 := hb3.cell 9
          have fk9 := hb3.free 9
          have k4 := hb3.cell 4
          have fk4 := hb3.free 4
          simp only [List.getElem?_cons_zero, List.getElem?_cons_succ] at k0 k6 k9 k4))
    have hc5 : Chg (DqB b bs bl) w w3 := ((Chg.refl (DqB b bs bl) w).drew).trans (hc3.mono (fun _ _ e => .inr e))
    go_wp2_with fail
    go_end0
    have hcb : Chg (fun k => k = b) w3 ((w3.setCell ⟨b, 9, none⟩ (.bool false)).setCell ⟨b, 4, none⟩ ((DPc.popBack).val b q1 q2)) := ((Chg.refl (fun k => k = b) w3).setCell ⟨b, 9, none⟩ _ (fun _ => rfl)).setCell ⟨b, 4, none⟩ _ (fun _ => rfl)
    exact ⟨rfl, ⟨ap, ⟨u1, u2, u3⟩, eok, (hb3.set' 9 _ rfl).set' 4 _ rfl, fun _ e => by cases e⟩, hs3.chg hcb (Ne.symm h1) (Ne.symm h2), hc5.trans (hcb.mono (fun _ _ e => .inl e))⟩
  · simp only [↓reduceIte]
    have g0 := hb.cell 0
    have g6 := hb.cell 6
    simp only [List.getElem?_cons_zero, List.getElem?_cons_succ] at g0 g6
    go_enter Tryz.func205, Tryz.ntmps205
    go_wp2_with fail
    go_region_held3 (fun w' => w'.cell? ⟨b, 0, none⟩ = some (.int .i64 e.tp) ∧ w'.cell? ⟨b, 6, none⟩ = some (.int .u64 d.t))
      (first | exact ⟨g0, g6⟩ | exact ⟨k0, k6⟩ | exact ⟨keepSet k0 (by simp), keepSet k6 (by simp)⟩ | exact ⟨keepCell k0 (by simp), keepCell k6 (by simp)⟩)
      (first
       | (go_at_call 194; refine (swap_any e.tp d.t v _ hs.drew hx).mono ?_; rintro r w3 ⟨rfl, hs3, hc3⟩
          rw [HH.out] at hs3 ⊢
          simp only [↓reduceIte] at hs3
          have hb3 := hc3.blk hb.drew (show ¬ MemB bs bl b from fun e => e.elim h1 h2)
          have k0 := hb3.cell 0
          have k6 := hb3.cell 6
          have k9 := hb3.cell 9
          have fk9 := hb3.free 9
          have k4 := hb3.cell 4
          have fk4 := hb3.free 4
          simp only [List.getElem?_cons_zero, List.getElem?_cons_succ] at k0 k6 k9 k4))
    have hc5 : Chg (DqB b bs bl) w w3 := ((Chg.refl (DqB b bs bl) w).drew).trans (hc3.mono (fun _ _ e => .inr e))
    go_wp2_with fail
    go_end0
    have hcb : Chg (fun k => k = b) w3 ((w3.setCell ⟨b, 9, none⟩ (.bool true)).setCell ⟨b, 4, none⟩ ((DPc.popBack).val b q1 q2)) := ((Chg.refl (fun k => k = b) w3).setCell ⟨b, 9, none⟩ _ (fun _ => rfl)).setCell ⟨b, 4, none⟩ _ (fun _ => rfl)
    exact ⟨rfl, ⟨ap, ⟨u1, u2, u3⟩, eok, (hb3.set' 9 _ rfl).set' 4 _ rfl, fun _ e => by cases e⟩, hs3.chg hcb (Ne.symm h1) (Ne.symm h2), hc5.trans (hcb.mono (fun _ _ e => .inl e))⟩

set_option maxRecDepth 8000 in
theorem dqBack_does {b q1 q2 bs bl : Nat} {e : DEnds} {d : DQ} {mem : List Int} {n : Int} (w : World) (h : DqAt w b q1 q2 e d) (hs : StoreAt w bs bl mem n) (h1 : b ≠ bs) (h2 : b ≠ bl) (hp : d.pc = .popBack) :
    Calls Tryz.prog 199 #[.pointer (some ⟨b, 0, none⟩), .pointer (some ⟨bs, 0, none⟩)] w fun r w' => r = .returned (.tuple #[]) ∧ DqAt w' b q1 q2 e (dqStep e mem d).2 ∧ StoreAt w' bs bl (dqStep e mem d).1 (cnt n) ∧ Chg (DqB b bs bl) w w' := by
  obtain ⟨ap, ⟨u1, u2, u3⟩, eok, hb, _⟩ := h
  simp only [dqStep, hp] at hb ⊢
  have hx : U ((d.b + 1) % 18446744073709551616) := by unfold U; omega
  have x1 : IntKind.u64.wrap (d.b + 1) = (d.b + 1) % 18446744073709551616 := IntKind.wrap_u64 _
  generalize (d.b + 1) % 18446744073709551616 = v at *
  obtain ⟨won, hwon⟩ : ∃ won, d.won = won := ⟨_, rfl⟩
  rw [hwon] at hb ⊢
  clear hwon
  have g1 := hb.cell 1
  have g5 := hb.cell 5
  simp only [List.getElem?_cons_zero, List.getElem?_cons_succ] at g1 g5
  go_enter Tryz.func199, Tryz.ntmps199
  go_wp2_with fail
  go_region_held3 (fun w' => w'.cell? ⟨b, 1, none⟩ = some (.int .i64 e.bt) ∧ w'.cell? ⟨b, 5, none⟩ = some (.int .u64 d.b))
    (first | exact ⟨g1, g5⟩ | exact ⟨k1, k5⟩)
    (first
     | (go_at_call 16; refine (put_any e.bt v _ hs.drew hx).mono ?_; rintro r w3 ⟨rfl, hs3, hc3⟩
        have hb3 := hc3.blk hb.drew (show ¬ MemB bs bl b from fun e => e.elim h1 h2)
        have k1 := hb3.cell 1
        have k5 := hb3.cell 5
        have k7 := hb3.cell 7
        have fk7 := hb3.free 7
        have k9 := hb3.cell 9
        simp only [List.getElem?_cons_zero, List.getElem?_cons_succ] at k1 k5 k7 k9))
  have hc5 : Chg (DqB b bs bl) w w3 := ((Chg.refl (DqB b bs bl) w).drew).trans (hc3.mono (fun _ _ e => .inr e))
  cases won
  · go_wp2_with fail
    have hb4 := hb3.set' 7 (.int .u64 0) (l' := dqL e ((DPc.popBack).val b q1 q2) d.b d.t 0 d.out false) rfl
    have hcb : Chg (fun k => k = b) w3 (w3.setCell ⟨b, 7, none⟩ (.int .u64 0)) := (Chg.refl (fun k => k = b) w3).setCell ⟨b, 7, none⟩ _ (fun _ => rfl)
    refine (dend_any 3 _ hb4).mono ?_; rintro r w5 ⟨rfl, hb5, hc6⟩
    go_wp2_with fail
    go_end0
    have hc7 := hcb.trans hc6
    exact ⟨rfl, ⟨ap, ⟨u1, u2, by show U 0; unfold U; omega⟩, eok, hb5, fun _ e => by cases e⟩, hs3.chg hc7 (Ne.symm h1) (Ne.symm h2), hc5.trans (hc7.mono (fun _ _ e => .inl e))⟩
  · go_wp2_with fail
    refine (dend_any 1 _ hb3).mono ?_; rintro r w5 ⟨rfl, hb5, hc6⟩
    go_wp2_with fail
    refine bodyPost_ret (results_none rfl _ _ _) rfl ?_
    exact ⟨rfl, ⟨ap, ⟨u1, u2, u3⟩, eok, hb5, fun _ e => by cases e⟩, hs3.chg hc6 (Ne.symm h1) (Ne.symm h2), hc5.trans (hc6.mono (fun _ _ e => .inl e))⟩

end Go.Proofs.YtapdpclgbpgklaaGreat
