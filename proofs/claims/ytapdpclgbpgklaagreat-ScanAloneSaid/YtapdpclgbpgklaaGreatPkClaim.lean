/- A node that is marked: walked. -/
import Derived.Test.YtapdpclgbpgklaaGreatPkPackW
import Derived.Deep.QuietTactic
import Derived.BigQuiet
namespace Go.Proofs.YtapdpclgbpgklaaGreat
open Go.RowKit

/-- What a claim's machine does next. -/
inductive CPc where
  | done | look | count | swap | back
deriving DecidableEq

/-- What it knows. -/
structure CM where
  pc : CPc
  v : Int
  cycle : Int
  k : Int
  won : Bool

def CM.ok (s : CM) : Prop := U s.cycle ∧ U s.k

def CPc.val (b : Nat) : CPc → Value
  | .done => .nilFunc
  | .look => .func (.func 121) #[.pointer (some ⟨b, 0, none⟩)] #[]
  | .count => .func (.func 152) #[.pointer (some ⟨b, 0, none⟩)] #[]
  | .swap => .func (.func 177) #[.pointer (some ⟨b, 0, none⟩)] #[]
  | .back => .func (.func 195) #[.pointer (some ⟨b, 0, none⟩)] #[]

def CPc.fin : CPc → Bool
  | .done => true
  | _ => false

abbrev cmL (bm : Nat) (v cycle k : Int) (won : Bool) (nx : Value) : List Value := [.pointer (some ⟨bm, 0, none⟩), .int .i64 v, .int .u64 cycle, .int .u64 k, .bool won, nx]

/-- A machine stands at block b. -/
def CmAt (w : World) (b bm : Nat) (s : CM) : Prop := s.ok ∧ Blk w b 183 (cmL bm s.v s.cycle s.k s.won (s.pc.val b))

theorem CmAt.chg {w w' : World} {S : Nat → Prop} {b bm : Nat} {s : CM} (h : CmAt w b bm s) (k : Chg S w w') (hn : ¬ S b) : CmAt w' b bm s := ⟨h.1, k.blk h.2 hn⟩

/-- One more, one less. -/
def addI (x d : Int) : Int := (x + d) % 18446744073709551616

theorem Blk.chgN {w : World} {b : Nat} {t : TypeId} {l : List Value} (h : Blk w b t l) (k : Nat) : Blk (w.drewN k) b t l := h

/-- One step of a claim's machine. -/
def cmStep (c : Cfg) (mem : List Int) (s : CM) : List Int × CM :=
  match s.pc with
  | .done => (mem, s)
  | .look => (mem, { s with pc := if mget mem (pNode c s.v 2) ≥ s.cycle then .done else .count, k := mget mem (pNode c s.v 2) })
  | .count => (mput mem 1 (addI (mget mem 1) 1), { s with pc := .swap })
  | .swap => (if mhit mem (pNode c s.v 2) s.k then mput mem (pNode c s.v 2) s.cycle else mem, { s with pc := if mhit mem (pNode c s.v 2) s.k then .done else .back, won := mhit mem (pNode c s.v 2) s.k })
  | .back => (mput mem 1 (addI (mget mem 1) 18446744073709551615), { s with pc := .done })

set_option maxRecDepth 8000 in
theorem cmLook_does {b bm bs bl B : Nat} {c : Cfg} {s : CM} {mem : List Int} {n : Int} (w : World) (hg : Good c) (h : CmAt w b bm s) (hs : StoreAt w bs bl mem n) (hm : MapAt w B bm c) (h1 : b ≠ bs) (h2 : b ≠ bl) (hp : s.pc = .look) :
    Calls Tryz.prog 121 #[.pointer (some ⟨b, 0, none⟩), .pointer (some ⟨bs, 0, none⟩)] w fun r w' => r = .returned (.tuple #[]) ∧ CmAt w' b bm (cmStep c mem s).2 ∧ StoreAt w' bs bl (cmStep c mem s).1 (cnt n) ∧ Chg (StB b bs bl) w w' := by
  obtain ⟨⟨u1, u2⟩, hb⟩ := h
  have hU := mget_all hs.all (pNode c s.v 2)
  simp only [cmStep, hp] at hb ⊢
  generalize ht : mget mem (pNode c s.v 2) = kk at *
  have HT : Hid (mget mem (pNode c s.v 2) = kk) := ht
  clear ht
  have g0 := hb.cell 0
  have g1 := hb.cell 1
  simp only [List.getElem?_cons_zero, List.getElem?_cons_succ] at g0 g1
  by_cases hge : kk ≥ s.cycle
  · have hge' : s.cycle ≤ kk := hge
    have hgd : decide (s.cycle ≤ kk) = true := decide_eq_true hge'
    rw [if_pos hge]
    go_enter Tryz.func121, Tryz.ntmps121
    go_wp2_with fail
    go_region_held3 (fun w' => w'.cell? ⟨b, 0, none⟩ = some (.pointer (some ⟨bm, 0, none⟩)) ∧ w'.cell? ⟨b, 1, none⟩ = some (.int .i64 s.v))
      (first | exact ⟨g0, g1⟩ | exact ⟨k0, k1⟩ | exact ⟨keepSet k0 (by simp), keepSet k1 (by simp)⟩ | exact ⟨keepCell k0 (by simp), keepCell k1 (by simp)⟩)
      (first
       | (go_at_call 41; refine (load_any (pNode c s.v 2) _ hs.drew).mono ?_; rintro r w3 ⟨rfl, hs3, hc3⟩
          rw [HT.out]
          have hb3 := hc3.blk hb.drew h1
          have k0 := hb3.cell 0
          have k1 := hb3.cell 1
          have k3 := hb3.cell 3
          have f3 := hb3.free 3
          simp only [List.getElem?_cons_zero, List.getElem?_cons_succ] at k0 k1 k3)
       | (go_at_call 17; refine (mMark_any s.v _ hm.drew hg).mono ?_; rintro r w2 ⟨rfl, rfl⟩))
    all_goals
      have hb4 : Blk (w3.setCell ⟨b, 3, none⟩ (.int .u64 kk)) b 183 (cmL bm s.v s.cycle kk s.won ((CPc.look).val b)) := hb3.set' 3 _ rfl
      have hcb : Chg (fun k => k = b) w3 (w3.setCell ⟨b, 3, none⟩ (.int .u64 kk)) := (Chg.refl (fun k => k = b) w3).setCell ⟨b, 3, none⟩ _ (fun _ => rfl)
      have hc5 : Chg (StB b bs bl) w w3 := ((Chg.refl (StB b bs bl) w).drew).trans (hc3.mono (fun _ _ e => .inr (.inl e)))
      generalize w3.setCell ⟨b, 3, none⟩ (.int .u64 kk) = w4 at *
      clear k0 k1 k3 f3 g0 g1
      have m2 := hb4.cell 2
      have m3 := hb4.cell 3
      have m5 := hb4.cell 5
      have f5 := hb4.free 5
      simp only [List.getElem?_cons_zero, List.getElem?_cons_succ] at m2 m3 m5
      go_wp2_with fail
      have hb5 : Blk (w4.setCell ⟨b, 5, none⟩ ((CPc.count).val b)) b 183 (cmL bm s.v s.cycle kk s.won ((CPc.count).val b)) := hb4.set' 5 _ rfl
      have hcc : Chg (fun k => k = b) w4 (w4.setCell ⟨b, 5, none⟩ ((CPc.count).val b)) := (Chg.refl (fun k => k = b) w4).setCell ⟨b, 5, none⟩ _ (fun _ => rfl)
      simp only [CPc.val] at hb5 hcc
      generalize w4.setCell ⟨b, 5, none⟩ (.func (.func 152) #[.pointer (some ⟨b, 0, none⟩)] #[]) = w5 at *
      clear m2 m3 m5 f5
      have m2 := hb5.cell 2
      have m3 := hb5.cell 3
      have m5 := hb5.cell 5
      have f5 := hb5.free 5
      simp only [List.getElem?_cons_zero, List.getElem?_cons_succ] at m2 m3 m5
      go_quiet (fail)
      have hb6 := hb5.chgN nq
      have m5 := hb6.cell 5
      have f5 := hb6.free 5
      simp only [List.getElem?_cons_zero, List.getElem?_cons_succ] at m5
      go_wp2_with fail
      go_end0
      have hcd : Chg (fun k => k = b) w5 ((w5.drewN nq).setCell ⟨b, 5, none⟩ .nilFunc) := ((Chg.refl (fun k => k = b) w5).drewN nq).setCell ⟨b, 5, none⟩ _ (fun _ => rfl)
      have hc7 := (hcb.trans hcc).trans hcd
      exact ⟨rfl, ⟨⟨u1, hU⟩, hb6.set' 5 _ rfl⟩, hs3.chg hc7 (Ne.symm h1) (Ne.symm h2), hc5.trans (hc7.mono (fun _ _ e => .inl e))⟩
  · have hge' : ¬ s.cycle ≤ kk := hge
    have hgd : decide (s.cycle ≤ kk) = false := decide_eq_false hge'
    rw [if_neg hge]
    go_enter Tryz.func121, Tryz.ntmps121
    go_wp2_with fail
    go_region_held3 (fun w' => w'.cell? ⟨b, 0, none⟩ = some (.pointer (some ⟨bm, 0, none⟩)) ∧ w'.cell? ⟨b, 1, none⟩ = some (.int .i64 s.v))
      (first | exact ⟨g0, g1⟩ | exact ⟨k0, k1⟩ | exact ⟨keepSet k0 (by simp), keepSet k1 (by simp)⟩ | exact ⟨keepCell k0 (by simp), keepCell k1 (by simp)⟩)
      (first
       | (go_at_call 41; refine (load_any (pNode c s.v 2) _ hs.drew).mono ?_; rintro r w3 ⟨rfl, hs3, hc3⟩
          rw [HT.out]
          have hb3 := hc3.blk hb.drew h1
          have k0 := hb3.cell 0
          have k1 := hb3.cell 1
          have k3 := hb3.cell 3
          have f3 := hb3.free 3
          simp only [List.getElem?_cons_zero, List.getElem?_cons_succ] at k0 k1 k3)
       | (go_at_call 17; refine (mMark_any s.v _ hm.drew hg).mono ?_; rintro r w2 ⟨rfl, rfl⟩))
    all_goals
      have hb4 : Blk (w3.setCell ⟨b, 3, none⟩ (.int .u64 kk)) b 183 (cmL bm s.v s.cycle kk s.won ((CPc.look).val b)) := hb3.set' 3 _ rfl
      have hcb : Chg (fun k => k = b) w3 (w3.setCell ⟨b, 3, none⟩ (.int .u64 kk)) := (Chg.refl (fun k => k = b) w3).setCell ⟨b, 3, none⟩ _ (fun _ => rfl)
      have hc5 : Chg (StB b bs bl) w w3 := ((Chg.refl (StB b bs bl) w).drew).trans (hc3.mono (fun _ _ e => .inr (.inl e)))
      generalize w3.setCell ⟨b, 3, none⟩ (.int .u64 kk) = w4 at *
      clear k0 k1 k3 f3 g0 g1
      have m2 := hb4.cell 2
      have m3 := hb4.cell 3
      have m5 := hb4.cell 5
      have f5 := hb4.free 5
      simp only [List.getElem?_cons_zero, List.getElem?_cons_succ] at m2 m3 m5
      go_wp2_with fail
      have hb5 : Blk (w4.setCell ⟨b, 5, none⟩ ((CPc.count).val b)) b 183 (cmL bm s.v s.cycle kk s.won ((CPc.count).val b)) := hb4.set' 5 _ rfl
      have hcc : Chg (fun k => k = b) w4 (w4.setCell ⟨b, 5, none⟩ ((CPc.count).val b)) := (Chg.refl (fun k => k = b) w4).setCell ⟨b, 5, none⟩ _ (fun _ => rfl)
      simp only [CPc.val] at hb5 hcc
      generalize w4.setCell ⟨b, 5, none⟩ (.func (.func 152) #[.pointer (some ⟨b, 0, none⟩)] #[]) = w5 at *
      clear m2 m3 m5 f5
      have m2 := hb5.cell 2
      have m3 := hb5.cell 3
      have m5 := hb5.cell 5
      have f5 := hb5.free 5
      simp only [List.getElem?_cons_zero, List.getElem?_cons_succ] at m2 m3 m5
      go_quiet (fail)
      go_wp2_with fail
      go_end0
      have hc7 := (hcb.trans hcc).drewN nq
      exact ⟨rfl, ⟨⟨u1, hU⟩, hb5.chgN nq⟩, hs3.chg hc7 (Ne.symm h1) (Ne.symm h2), hc5.trans (hc7.mono (fun _ _ e => .inl e))⟩

set_option maxRecDepth 8000 in
theorem cmCount_does {b bm bs bl B : Nat} {c : Cfg} {s : CM} {mem : List Int} {n : Int} (w : World) (_hg : Good c) (h : CmAt w b bm s) (hs : StoreAt w bs bl mem n) (_hm : MapAt w B bm c) (h1 : b ≠ bs) (h2 : b ≠ bl) (hp : s.pc = .count) :
    Calls Tryz.prog 152 #[.pointer (some ⟨b, 0, none⟩), .pointer (some ⟨bs, 0, none⟩)] w fun r w' => r = .returned (.tuple #[]) ∧ CmAt w' b bm (cmStep c mem s).2 ∧ StoreAt w' bs bl (cmStep c mem s).1 (cnt n) ∧ Chg (StB b bs bl) w w' := by
  obtain ⟨⟨u1, u2⟩, hb⟩ := h
  simp only [cmStep, hp] at hb ⊢
  have g0 := hb.cell 0
  simp only [List.getElem?_cons_zero] at g0
  go_enter Tryz.func152, Tryz.ntmps152
  go_wp2_with fail
  refine (mWork_any bm w).mono ?_; rintro r w2 ⟨rfl, rfl⟩
  go_wp2_with fail
  refine (add_any 1 1 w hs).mono ?_; rintro r w3 ⟨rfl, hs3, hc3⟩
  have hb3 := hc3.blk hb (show ¬ MemB bs bl b from fun e => e.elim h1 h2)
  have g5 := hb3.cell 5
  have f5 := hb3.free 5
  simp only [List.getElem?_cons_zero, List.getElem?_cons_succ] at g5
  have hc5 : Chg (StB b bs bl) w w3 := hc3.stB
  go_wp2_with fail
  go_end0
  have hcb : Chg (fun k => k = b) w3 (w3.setCell ⟨b, 5, none⟩ ((CPc.swap).val b)) := (Chg.refl (fun k => k = b) w3).setCell ⟨b, 5, none⟩ _ (fun _ => rfl)
  exact ⟨rfl, ⟨⟨u1, u2⟩, hb3.set' 5 _ rfl⟩, hs3.chg hcb (Ne.symm h1) (Ne.symm h2), hc5.trans (hcb.mono (fun _ _ e => .inl e))⟩

set_option maxRecDepth 8000 in
theorem cmSwap_does {b bm bs bl B : Nat} {c : Cfg} {s : CM} {mem : List Int} {n : Int} (w : World) (hg : Good c) (h : CmAt w b bm s) (hs : StoreAt w bs bl mem n) (hm : MapAt w B bm c) (h1 : b ≠ bs) (h2 : b ≠ bl) (hp : s.pc = .swap) :
    Calls Tryz.prog 177 #[.pointer (some ⟨b, 0, none⟩), .pointer (some ⟨bs, 0, none⟩)] w fun r w' => r = .returned (.tuple #[]) ∧ CmAt w' b bm (cmStep c mem s).2 ∧ StoreAt w' bs bl (cmStep c mem s).1 (cnt n) ∧ Chg (StB b bs bl) w w' := by
  obtain ⟨⟨u1, u2⟩, hb⟩ := h
  simp only [cmStep, hp] at hb ⊢
  generalize hh : mhit mem (pNode c s.v 2) s.k = hit at *
  have HH : Hid (mhit mem (pNode c s.v 2) s.k = hit) := hh
  clear hh
  have g0 := hb.cell 0
  have g1 := hb.cell 1
  have g2 := hb.cell 2
  have g3 := hb.cell 3
  simp only [List.getElem?_cons_zero, List.getElem?_cons_succ] at g0 g1 g2 g3
  cases hit
  · simp only [Bool.false_eq_true, ↓reduceIte]
    go_enter Tryz.func177, Tryz.ntmps177
    go_wp2_with fail
    go_region_held3 (fun w' => w'.cell? ⟨b, 0, none⟩ = some (.pointer (some ⟨bm, 0, none⟩)) ∧ w'.cell? ⟨b, 1, none⟩ = some (.int .i64 s.v) ∧ w'.cell? ⟨b, 2, none⟩ = some (.int .u64 s.cycle) ∧ w'.cell? ⟨b, 3, none⟩ = some (.int .u64 s.k))
      (first | exact ⟨g0, g1, g2, g3⟩ | exact ⟨k0, k1, k2, k3⟩ | exact ⟨keepSet k0 (by simp), keepSet k1 (by simp), keepSet k2 (by simp), keepSet k3 (by simp)⟩ | exact ⟨keepCell k0 (by simp), keepCell k1 (by simp), keepCell k2 (by simp), keepCell k3 (by simp)⟩)
      (first
       | (go_at_call 194; refine (swap_any (pNode c s.v 2) s.k s.cycle _ hs.drew u1).mono ?_; rintro r w3 ⟨rfl, hs3, hc3⟩
          rw [HH.out] at hs3 ⊢
          simp only [Bool.false_eq_true, ↓reduceIte] at hs3
          have hb3 := hc3.blk hb.drew (show ¬ MemB bs bl b from fun e => e.elim h1 h2)
          have k0 := hb3.cell 0
          have k1 := hb3.cell 1
          have k2 := hb3.cell 2
          have k3 := hb3.cell 3
          have k4 := hb3.cell 4
          have f4 := hb3.free 4
          simp only [List.getElem?_cons_zero, List.getElem?_cons_succ] at k0 k1 k2 k3 k4)
       | (go_at_call 17; refine (mMark_any s.v _ hm.drew hg).mono ?_; rintro r w2 ⟨rfl, rfl⟩))
    all_goals
      have hb4 : Blk (w3.setCell ⟨b, 4, none⟩ (.bool false)) b 183 (cmL bm s.v s.cycle s.k false ((CPc.swap).val b)) := hb3.set' 4 _ rfl
      have hcb : Chg (fun k => k = b) w3 (w3.setCell ⟨b, 4, none⟩ (.bool false)) := (Chg.refl (fun k => k = b) w3).setCell ⟨b, 4, none⟩ _ (fun _ => rfl)
      have hc5 : Chg (StB b bs bl) w w3 := ((Chg.refl (StB b bs bl) w).drew).trans (hc3.stB)
      generalize w3.setCell ⟨b, 4, none⟩ (.bool false) = w4 at *
      clear k0 k1 k2 k3 k4 f4 g0 g1 g2 g3
      have m4 := hb4.cell 4
      have m5 := hb4.cell 5
      have f5 := hb4.free 5
      simp only [List.getElem?_cons_zero, List.getElem?_cons_succ] at m4 m5
      go_wp2_with fail
      go_end0
      have hcc : Chg (fun k => k = b) w4 (w4.setCell ⟨b, 5, none⟩ ((CPc.back).val b)) := (Chg.refl (fun k => k = b) w4).setCell ⟨b, 5, none⟩ _ (fun _ => rfl)
      have hc7 := hcb.trans hcc
      exact ⟨rfl, ⟨⟨u1, u2⟩, hb4.set' 5 _ rfl⟩, hs3.chg hc7 (Ne.symm h1) (Ne.symm h2), hc5.trans (hc7.mono (fun _ _ e => .inl e))⟩
  · simp only [↓reduceIte]
    go_enter Tryz.func177, Tryz.ntmps177
    go_wp2_with fail
    go_region_held3 (fun w' => w'.cell? ⟨b, 0, none⟩ = some (.pointer (some ⟨bm, 0, none⟩)) ∧ w'.cell? ⟨b, 1, none⟩ = some (.int .i64 s.v) ∧ w'.cell? ⟨b, 2, none⟩ = some (.int .u64 s.cycle) ∧ w'.cell? ⟨b, 3, none⟩ = some (.int .u64 s.k))
      (first | exact ⟨g0, g1, g2, g3⟩ | exact ⟨k0, k1, k2, k3⟩ | exact ⟨keepSet k0 (by simp), keepSet k1 (by simp), keepSet k2 (by simp), keepSet k3 (by simp)⟩ | exact ⟨keepCell k0 (by simp), keepCell k1 (by simp), keepCell k2 (by simp), keepCell k3 (by simp)⟩)
      (first
       | (go_at_call 194; refine (swap_any (pNode c s.v 2) s.k s.cycle _ hs.drew u1).mono ?_; rintro r w3 ⟨rfl, hs3, hc3⟩
          rw [HH.out] at hs3 ⊢
          simp only [↓reduceIte] at hs3
          have hb3 := hc3.blk hb.drew (show ¬ MemB bs bl b from fun e => e.elim h1 h2)
          have k0 := hb3.cell 0
          have k1 := hb3.cell 1
          have k2 := hb3.cell 2
          have k3 := hb3.cell 3
          have k4 := hb3.cell 4
          have f4 := hb3.free 4
          simp only [List.getElem?_cons_zero, List.getElem?_cons_succ] at k0 k1 k2 k3 k4)
       | (go_at_call 17; refine (mMark_any s.v _ hm.drew hg).mono ?_; rintro r w2 ⟨rfl, rfl⟩))
    all_goals
      have hb4 : Blk (w3.setCell ⟨b, 4, none⟩ (.bool true)) b 183 (cmL bm s.v s.cycle s.k true ((CPc.swap).val b)) := hb3.set' 4 _ rfl
      have hcb : Chg (fun k => k = b) w3 (w3.setCell ⟨b, 4, none⟩ (.bool true)) := (Chg.refl (fun k => k = b) w3).setCell ⟨b, 4, none⟩ _ (fun _ => rfl)
      have hc5 : Chg (StB b bs bl) w w3 := ((Chg.refl (StB b bs bl) w).drew).trans (hc3.stB)
      generalize w3.setCell ⟨b, 4, none⟩ (.bool true) = w4 at *
      clear k0 k1 k2 k3 k4 f4 g0 g1 g2 g3
      have m4 := hb4.cell 4
      have m5 := hb4.cell 5
      have f5 := hb4.free 5
      simp only [List.getElem?_cons_zero, List.getElem?_cons_succ] at m4 m5
      go_wp2_with fail
      go_end0
      have hcc : Chg (fun k => k = b) w4 ((w4.setCell ⟨b, 5, none⟩ ((CPc.back).val b)).setCell ⟨b, 5, none⟩ .nilFunc) := ((Chg.refl (fun k => k = b) w4).setCell ⟨b, 5, none⟩ _ (fun _ => rfl)).setCell ⟨b, 5, none⟩ _ (fun _ => rfl)
      have hc7 := hcb.trans hcc
      exact ⟨rfl, ⟨⟨u1, u2⟩, (hb4.set' 5 ((CPc.back).val b) rfl).set' 5 _ rfl⟩, hs3.chg hc7 (Ne.symm h1) (Ne.symm h2), hc5.trans (hc7.mono (fun _ _ e => .inl e))⟩

set_option maxRecDepth 8000 in
theorem cmBack_does {b bm bs bl B : Nat} {c : Cfg} {s : CM} {mem : List Int} {n : Int} (w : World) (_hg : Good c) (h : CmAt w b bm s) (hs : StoreAt w bs bl mem n) (_hm : MapAt w B bm c) (h1 : b ≠ bs) (h2 : b ≠ bl) (hp : s.pc = .back) :
    Calls Tryz.prog 195 #[.pointer (some ⟨b, 0, none⟩), .pointer (some ⟨bs, 0, none⟩)] w fun r w' => r = .returned (.tuple #[]) ∧ CmAt w' b bm (cmStep c mem s).2 ∧ StoreAt w' bs bl (cmStep c mem s).1 (cnt n) ∧ Chg (StB b bs bl) w w' := by
  obtain ⟨⟨u1, u2⟩, hb⟩ := h
  simp only [cmStep, hp] at hb ⊢
  have g0 := hb.cell 0
  simp only [List.getElem?_cons_zero] at g0
  go_enter Tryz.func195, Tryz.ntmps195
  go_wp2_with fail
  refine (mWork_any bm w).mono ?_; rintro r w2 ⟨rfl, rfl⟩
  go_wp2_with fail
  refine (add_any 1 18446744073709551615 w hs).mono ?_; rintro r w3 ⟨rfl, hs3, hc3⟩
  have hb3 := hc3.blk hb (show ¬ MemB bs bl b from fun e => e.elim h1 h2)
  have g5 := hb3.cell 5
  have f5 := hb3.free 5
  simp only [List.getElem?_cons_zero, List.getElem?_cons_succ] at g5
  have hc5 : Chg (StB b bs bl) w w3 := hc3.stB
  go_wp2_with fail
  go_end0
  have hcb : Chg (fun k => k = b) w3 (w3.setCell ⟨b, 5, none⟩ ((CPc.done).val b)) := (Chg.refl (fun k => k = b) w3).setCell ⟨b, 5, none⟩ _ (fun _ => rfl)
  exact ⟨rfl, ⟨⟨u1, u2⟩, hb3.set' 5 _ rfl⟩, hs3.chg hcb (Ne.symm h1) (Ne.symm h2), hc5.trans (hcb.mono (fun _ _ e => .inl e))⟩

theorem cval_func {q : CPc} (b : Nat) (h : q.fin = false) : ∃ f : FuncId, q.val b = .func (.func f) #[.pointer (some ⟨b, 0, none⟩)] #[] := by
  cases q
  · cases h
  all_goals exact ⟨_, rfl⟩

theorem cval_done {q : CPc} (b : Nat) (h : q.fin = true) : q.val b = .nilFunc := by
  cases q
  · rfl
  all_goals cases h

theorem cfin_iff {q : CPc} : q.fin = true ↔ q = .done := by cases q <;> simp [CPc.fin]

theorem cmStep_done {c : Cfg} {mem : List Int} {s : CM} (h : s.pc = .done) : cmStep c mem s = (mem, s) := by
  unfold cmStep; rw [h]

set_option maxRecDepth 8000 in
/-- Any step of a claim's machine. -/
theorem cstep_any {b bm bs bl B : Nat} {c : Cfg} {s : CM} {mem : List Int} {n : Int} (w : World) (hg : Good c) (h : CmAt w b bm s) (hs : StoreAt w bs bl mem n) (hm : MapAt w B bm c) (h1 : b ≠ bs) (h2 : b ≠ bl) :
    Calls Tryz.prog 122 #[.pointer (some ⟨b, 0, none⟩), .pointer (some ⟨bs, 0, none⟩)] w fun r w' => r = .returned (.bool (cmStep c mem s).2.pc.fin) ∧ CmAt w' b bm (cmStep c mem s).2 ∧ StoreAt w' bs bl (cmStep c mem s).1 (cntIf s.pc.fin n) ∧ Chg (StB b bs bl) w w' := by
  have g5 := h.2.cell 5
  simp only [List.getElem?_cons_zero, List.getElem?_cons_succ] at g5
  have hn0 := func_eql0
  have hn1 := func_eql
  cases hq : s.pc
  case done =>
    rw [cmStep_done hq]
    rw [hq] at g5
    simp only [CPc.val] at g5
    have hfin : s.pc.fin = true := by rw [hq]; rfl
    have H : Hid (CmAt w b bm s) := h
    clear h
    go_enter Tryz.func122, Tryz.ntmps122
    go_wp2_with fail
    go_ret
    exact ⟨ret_bool hfin.symm, H.out, hs, Chg.refl _ _⟩
  case look =>
    have D := cmLook_does w hg h hs hm h1 h2 hq
    rw [hq] at g5
    simp only [CPc.val] at g5
    generalize cmStep c mem s = rr at *
    clear h
    go_enter Tryz.func122, Tryz.ntmps122
    go_wp2_with fail
    refine D.mono ?_; rintro r w2 ⟨rfl, hd2, hs2, hc2⟩
    have k5 := hd2.2.cell 5
    simp only [List.getElem?_cons_zero, List.getElem?_cons_succ] at k5
    have H : Hid (CmAt w2 b bm rr.2) := hd2
    clear hd2
    cases hf : rr.2.pc.fin
    · obtain ⟨f, hv⟩ := cval_func b hf
      rw [hv] at k5
      go_wp2_with fail
      go_ret
      exact ⟨ret_bool hf.symm, H.out, hs2, hc2⟩
    · rw [cval_done b hf] at k5
      go_wp2_with fail
      go_ret
      exact ⟨ret_bool hf.symm, H.out, hs2, hc2⟩
  case count =>
    have D := cmCount_does w hg h hs hm h1 h2 hq
    rw [hq] at g5
    simp only [CPc.val] at g5
    generalize cmStep c mem s = rr at *
    clear h
    go_enter Tryz.func122, Tryz.ntmps122
    go_wp2_with fail
    refine D.mono ?_; rintro r w2 ⟨rfl, hd2, hs2, hc2⟩
    have k5 := hd2.2.cell 5
    simp only [List.getElem?_cons_zero, List.getElem?_cons_succ] at k5
    have H : Hid (CmAt w2 b bm rr.2) := hd2
    clear hd2
    cases hf : rr.2.pc.fin
    · obtain ⟨f, hv⟩ := cval_func b hf
      rw [hv] at k5
      go_wp2_with fail
      go_ret
      exact ⟨ret_bool hf.symm, H.out, hs2, hc2⟩
    · rw [cval_done b hf] at k5
      go_wp2_with fail
      go_ret
      exact ⟨ret_bool hf.symm, H.out, hs2, hc2⟩
  case swap =>
    have D := cmSwap_does w hg h hs hm h1 h2 hq
    rw [hq] at g5
    simp only [CPc.val] at g5
    generalize cmStep c mem s = rr at *
    clear h
    go_enter Tryz.func122, Tryz.ntmps122
    go_wp2_with fail
    refine D.mono ?_; rintro r w2 ⟨rfl, hd2, hs2, hc2⟩
    have k5 := hd2.2.cell 5
    simp only [List.getElem?_cons_zero, List.getElem?_cons_succ] at k5
    have H : Hid (CmAt w2 b bm rr.2) := hd2
    clear hd2
    cases hf : rr.2.pc.fin
    · obtain ⟨f, hv⟩ := cval_func b hf
      rw [hv] at k5
      go_wp2_with fail
      go_ret
      exact ⟨ret_bool hf.symm, H.out, hs2, hc2⟩
    · rw [cval_done b hf] at k5
      go_wp2_with fail
      go_ret
      exact ⟨ret_bool hf.symm, H.out, hs2, hc2⟩
  case back =>
    have D := cmBack_does w hg h hs hm h1 h2 hq
    rw [hq] at g5
    simp only [CPc.val] at g5
    generalize cmStep c mem s = rr at *
    clear h
    go_enter Tryz.func122, Tryz.ntmps122
    go_wp2_with fail
    refine D.mono ?_; rintro r w2 ⟨rfl, hd2, hs2, hc2⟩
    have k5 := hd2.2.cell 5
    simp only [List.getElem?_cons_zero, List.getElem?_cons_succ] at k5
    have H : Hid (CmAt w2 b bm rr.2) := hd2
    clear hd2
    cases hf : rr.2.pc.fin
    · obtain ⟨f, hv⟩ := cval_func b hf
      rw [hv] at k5
      go_wp2_with fail
      go_ret
      exact ⟨ret_bool hf.symm, H.out, hs2, hc2⟩
    · rw [cval_done b hf] at k5
      go_wp2_with fail
      go_ret
      exact ⟨ret_bool hf.symm, H.out, hs2, hc2⟩

theorem cwon_any {b bm : Nat} {s : CM} (w : World) (h : CmAt w b bm s) :
    Calls Tryz.prog 123 #[.pointer (some ⟨b, 0, none⟩)] w fun r w' => r = .returned (.bool s.won) ∧ w = w' := by
  have g4 := h.2.cell 4
  simp only [List.getElem?_cons_zero, List.getElem?_cons_succ] at g4
  clear h
  cases hw : s.won <;> rw [hw] at g4
  · go_enter Tryz.func123, Tryz.ntmps123
    go_wp2_with fail
    go_ret
    exact ⟨rfl, rfl⟩
  · go_enter Tryz.func123, Tryz.ntmps123
    go_wp2_with fail
    go_ret
    exact ⟨rfl, rfl⟩

/-- A claim that begins. -/
abbrev newCM (v cycle : Int) : CM := ⟨.look, v, cycle, 0, false⟩

theorem target_neq (bm : Nat) (v cycle v2 cycle2 : Int) (W : World) : (binOp .neq 181 (.agg #[.pointer (some ⟨bm, 0, none⟩), .int .i64 v, .int .u64 cycle]) (.agg #[.pointer none, .int .i64 v2, .int .u64 cycle2])).run Tryz.prog W = .ok (.bool true) W := by kernel_rfl

set_option maxRecDepth 8000 in
theorem claimNew_any {bm : Nat} (v cycle : Int) (w : World) (hc : U cycle) :
    Calls Tryz.prog 77 #[.pointer (some ⟨bm, 0, none⟩), .int .i64 v, .int .u64 cycle] w fun r w' => ∃ b, r = .returned (.pointer (some ⟨b, 0, none⟩)) ∧ CmAt w' b bm (newCM v cycle) ∧ w.heap.size ≤ b ∧ b < w'.heap.size ∧ Kept w w' := by
  have hq := fun W => target_neq bm v cycle v cycle W
  have hb := Blk.new w 183 (cmL bm v cycle 0 false ((CPc.look).val w.heap.size))
  have hk : Kept w (w.alloc (.cells (cmL bm v cycle 0 false ((CPc.look).val w.heap.size)).toArray 183)) := (Below.refl _ _).alloc (Nat.le_refl _) _
  go_enter Tryz.func77, Tryz.ntmps77
  go_wp2_with fail
  go_ret
  exact ⟨w.heap.size, rfl, ⟨⟨hc, by show U 0; unfold U; omega⟩, hb⟩, Nat.le_refl _, hb.lt, hk⟩

end Go.Proofs.YtapdpclgbpgklaaGreat
