/- A packet's machine: walked. -/
import Derived.Test.YtfbcadknimfhjaaGreatPkD
namespace Go.Proofs.YtfbcadknimfhjaaGreat
open Go.RowKit

theorem method_step (k : Nat) (p : Value) (W : World) : (method (k + 1) 131 p "Step").run Tryz.prog W = .ok (143, p) W := by kernel_rfl

set_option maxRecDepth 8000 in
/-- A step of another machine. -/
theorem through_any {b bs bl B bm : Nat} {c : Cfg} {s : SM} {mem : List Int} {n : Int} (w : World) (hg : Good c) (h1 : b ≠ bs) (h2 : b ≠ bl) (hsm : SmAt w b 35 bm s) (hs : StoreAt w bs bl mem n) (hm : MapAt w B bm c) (hp : s.pc.fin = false) :
    Calls Tryz.prog 105 #[.iface 131 (.pointer (some ⟨b, 0, none⟩)), .pointer (some ⟨bs, 0, none⟩)] w fun e w' => e = .returned (.bool (smStep (fun p => pPack c p 1) mem s).2.pc.fin) ∧
      SmAt w' b 35 bm (smStep (fun p => pPack c p 1) mem s).2 ∧ StoreAt w' bs bl (smStep (fun p => pPack c p 1) mem s).1 (cnt n) ∧ Chg (StB b bs bl) w w' := by
  have D := step_any w hg h1 h2 hsm hs hm hp
  generalize smStep (fun p => pPack c p 1) mem s = r at *
  go_enter Tryz.func105, Tryz.ntmps105
  go_wp2_with fail
  rw [method_step _ _ w]
  go_wp2_with fail
  refine D.mono ?_; rintro e w2 ⟨rfl, h⟩
  go_wp2_with fail
  go_ret
  exact ⟨rfl, h⟩

/-- What a packet's machine does next. -/
inductive PPc where
  | done | spare | fill | many | last
deriving DecidableEq

def PPc.val (b : Nat) : PPc → Value
  | .done => .nilFunc
  | .spare => .func (.func 90) #[.pointer (some ⟨b, 0, none⟩)] #[]
  | .fill => .func (.func 107) #[.pointer (some ⟨b, 0, none⟩)] #[]
  | .many => .func (.func 114) #[.pointer (some ⟨b, 0, none⟩)] #[]
  | .last => .func (.func 118) #[.pointer (some ⟨b, 0, none⟩)] #[]

def PPc.fin : PPc → Bool
  | .done => true
  | _ => false

/-- Does its inner machine work? -/
def PPc.inner : PPc → Prop
  | .spare => True
  | .last => True
  | _ => False

/-- What a packet's machine knows. -/
structure PM where
  pc : PPc
  tasks : List Int
  j : Nat
  p : Int
  x : SM

abbrev pmL (bm : Nat) (tv : Value) (j p : Int) (iv nx : Value) : List Value := [.pointer (some ⟨bm, 0, none⟩), tv, .int .i64 j, .int .i64 p, iv, nx]

/-- The tasks of a machine, in a block of their own. -/
def TasksAt (w : World) (gt : Nat) (tv : Value) (ts : List Int) : Prop :=
  (ts = [] ∧ tv = .slice none 0 0) ∨ ∃ cap rest, tv = .slice (some ⟨gt, 0, none⟩) ts.length cap ∧ Blk w gt 25 (ts.map (Value.int .u64) ++ rest)

theorem TasksAt.chg {w w' : World} {S : Nat → Prop} {gt : Nat} {tv : Value} {ts : List Int} (h : TasksAt w gt tv ts) (k : Chg S w w') (hn : ¬ S gt) : TasksAt w' gt tv ts := by
  rcases h with h | ⟨cap, rest, h1, h2⟩
  · exact .inl h
  · exact .inr ⟨cap, rest, h1, k.blk h2 hn⟩

/-- A machine stands at block b, its inner one at bi, its tasks at gt; memory at bs, bl. -/
structure PmAt (w : World) (b bi gt bm bs bl : Nat) (s : PM) : Prop where
  ap : b ≠ bi ∧ b ≠ bs ∧ b ≠ bl ∧ bi ≠ bs ∧ bi ≠ bl ∧ gt ≠ b ∧ gt ≠ bi ∧ gt ≠ bs ∧ gt ≠ bl
  all : ∀ x ∈ s.tasks, U x
  len : s.tasks.length ≤ 4 ∧ s.j ≤ s.tasks.length
  rng : 0 ≤ s.p ∧ s.p < 4294967296
  ex : ∃ tv iv, Blk w b 133 (pmL bm tv s.j s.p iv (s.pc.val b)) ∧ TasksAt w gt tv s.tasks ∧ (s.pc.inner → iv = .pointer (some ⟨bi, 0, none⟩) ∧ SmAt w bi 35 bm s.x ∧ s.x.pc.fin = false)

/-- The blocks that a step may change. -/
abbrev PmB (b bi bs bl : Nat) : Nat → Prop := fun k => k = b ∨ k = bi ∨ k = bs ∨ k = bl

theorem Chg.pmB {b bi bs bl : Nat} {w w' : World} (h : Chg (StB bi bs bl) w w') : Chg (PmB b bi bs bl) w w' := h.mono (fun _ _ e => .inr e)

/-- Where a packet's link stands. -/
abbrev lnk (c : Cfg) : Int → Int := fun p => pPack c p 1

/-- The last machine's step. -/
def pmLast (c : Cfg) (mem : List Int) (s : PM) : List Int × PM :=
  ((smStep (lnk c) mem s.x).1, if (smStep (lnk c) mem s.x).2.pc.fin then { s with pc := .done, p := (smStep (lnk c) mem s.x).2.item, x := (smStep (lnk c) mem s.x).2 } else { s with x := (smStep (lnk c) mem s.x).2 })

theorem last_does {b bi gt bm bs bl B : Nat} {c : Cfg} {s : PM} {mem : List Int} {n : Int} (w : World) (hg : Good c) (h : PmAt w b bi gt bm bs bl s) (hs : StoreAt w bs bl mem n) (hm : MapAt w B bm c) (hp : s.pc = .last) :
    Calls Tryz.prog 118 #[.pointer (some ⟨b, 0, none⟩), .pointer (some ⟨bs, 0, none⟩)] w fun e w' => e = .returned (.tuple #[]) ∧
      PmAt w' b bi gt bm bs bl (pmLast c mem s).2 ∧ StoreAt w' bs bl (pmLast c mem s).1 (cnt n) ∧ Chg (PmB b bi bs bl) w w' := by
  obtain ⟨ap, hall, hlen, hrng, tv, iv, hb, ht, hin⟩ := h
  obtain ⟨rfl, hsm, hx⟩ := hin (by rw [hp]; trivial)
  obtain ⟨a1, a2, a3, a4, a5, a6, a7, a8, a9⟩ := id ap
  have g4 := hb.cell 4
  simp only [List.getElem?_cons_zero, List.getElem?_cons_succ] at g4
  unfold pmLast
  have D := through_any w hg a4 a5 hsm hs hm hx
  generalize smStep (lnk c) mem s.x = r at *
  obtain ⟨mem2, x2⟩ := r
  cases hf : x2.pc.fin
  · simp only [Bool.false_eq_true, if_false]
    simp only [hf] at D
    go_enter Tryz.func118, Tryz.ntmps118
    go_wp2_with fail
    refine D.mono ?_; rintro e w2 ⟨rfl, hsm2, hs2, hc2⟩
    go_wp2_with fail
    go_end0
    have hns : ¬ StB bi bs bl b := fun e => e.elim a1 (fun e => e.elim a2 a3)
    have hnt : ¬ StB bi bs bl gt := fun e => e.elim a7 (fun e => e.elim a8 a9)
    exact ⟨rfl, ⟨ap, hall, hlen, hrng, tv, _, hc2.blk hb hns, ht.chg hc2 hnt, fun _ => ⟨rfl, hsm2, hf⟩⟩, hs2, hc2.pmB⟩
  · simp only [if_true]
    simp only [hf] at D
    go_enter Tryz.func118, Tryz.ntmps118
    go_wp2_with fail
    refine D.mono ?_; rintro e w2 ⟨rfl, hsm2, hs2, hc2⟩
    have hns : ¬ StB bi bs bl b := fun e => e.elim a1 (fun e => e.elim a2 a3)
    have hnt : ¬ StB bi bs bl gt := fun e => e.elim a7 (fun e => e.elim a8 a9)
    have hb2 := hc2.blk hb hns
    have k4 := hb2.cell 4
    have k3 := hb2.cell 3
    have f3 := hb2.free 3
    have k5 := hb2.cell 5
    have f5 := hb2.free 5
    simp only [List.getElem?_cons_zero, List.getElem?_cons_succ] at k4 k3 k5
    go_wp2_with fail
    refine (item_any w2 hsm2).mono ?_; rintro e w3 ⟨rfl, rfl⟩
    rw [hf]
    simp only [if_true]
    go_wp2_with fail
    go_end0
    have hcb : Chg (fun k => k = b) w2 ((w2.setCell ⟨b, 3, none⟩ (.int .i64 x2.item)).setCell ⟨b, 5, none⟩ .nilFunc) := ((Chg.refl (fun k => k = b) w2).setCell ⟨b, 3, none⟩ _ (fun _ => rfl)).setCell ⟨b, 5, none⟩ _ (fun _ => rfl)
    exact ⟨rfl, ⟨ap, hall, hlen, hsm2.1.1, tv, _, (hb2.set' 3 _ rfl).set' 5 _ rfl, (ht.chg hc2 hnt).chg hcb a6, fun e => e.elim⟩, hs2.chg hcb (Ne.symm a2) (Ne.symm a3), (hc2.pmB).trans (hcb.mono (fun _ _ e => .inl e))⟩

/-- A task into the packet. -/
def pmFill (c : Cfg) (mem : List Int) (s : PM) : List Int × PM :=
  (mput mem (pTask c s.p s.j) (s.tasks[s.j]?.getD 0), { s with j := s.j + 1, pc := if s.j + 1 = s.tasks.length then .many else .fill })

theorem fill_does {b bi gt bm bs bl B : Nat} {c : Cfg} {s : PM} {mem : List Int} {n : Int} (w : World) (hg : Good c) (h : PmAt w b bi gt bm bs bl s) (hs : StoreAt w bs bl mem n) (hm : MapAt w B bm c) (hp : s.pc = .fill) (hj : s.j < s.tasks.length) :
    Calls Tryz.prog 107 #[.pointer (some ⟨b, 0, none⟩), .pointer (some ⟨bs, 0, none⟩)] w fun e w' => e = .returned (.tuple #[]) ∧
      PmAt w' b bi gt bm bs bl (pmFill c mem s).2 ∧ StoreAt w' bs bl (pmFill c mem s).1 (cnt n) ∧ Chg (PmB b bi bs bl) w w' := by
  obtain ⟨ap, hall, ⟨hlen, hlj⟩, hrng, tv, iv, hb, ht, hin⟩ := h
  obtain ⟨a1, a2, a3, a4, a5, a6, a7, a8, a9⟩ := id ap
  rcases id ht with ⟨h0, _⟩ | ⟨cap, rest, htv, hbt⟩
  · rw [h0] at hj; simp at hj
  subst htv
  have hU : U (s.tasks[s.j]?.getD 0) := by
    rw [List.getElem?_eq_getElem hj]; exact hall _ (List.getElem_mem _)
  have gj := hbt.cell s.j
  rw [store_word hj] at gj
  have g0 := hb.cell 0
  have g1 := hb.cell 1
  have g2 := hb.cell 2
  have g3 := hb.cell 3
  simp only [List.getElem?_cons_zero, List.getElem?_cons_succ] at g0 g1 g2 g3
  have hj0 : (0 : Int) ≤ s.j := by omega
  have hj1 : (s.j : Int) < s.tasks.length := by omega
  unfold pmFill
  generalize s.tasks[s.j]?.getD 0 = tk at *
  by_cases hq : s.j + 1 = s.tasks.length
  · rw [if_pos hq]
    have hqb : (((s.j : Int) + 1) == (s.tasks.length : Int)) = true := by simp; omega
    have HQ : Hid (s.j + 1 = s.tasks.length) := hq
    clear hq
    go_enter Tryz.func107, Tryz.ntmps107
    go_wp2_with fail
    go_region_held3 (fun w' => w'.cell? ⟨b, 0, none⟩ = some (.pointer (some ⟨bm, 0, none⟩)) ∧ w'.cell? ⟨b, 1, none⟩ = some (.slice (some ⟨gt, 0, none⟩) s.tasks.length cap) ∧ w'.cell? ⟨b, 2, none⟩ = some (.int .i64 s.j) ∧ w'.cell? ⟨b, 3, none⟩ = some (.int .i64 s.p) ∧ w'.cell? ⟨gt, s.j, none⟩ = some (.int .u64 tk))
      (first | exact ⟨g0, g1, g2, g3, gj⟩ | exact ⟨k0, k1, k2, k3, kj⟩)
      (first
       | (go_at_call 21; refine (put_any (pTask c s.p s.j) tk _ hs.drew hU).mono ?_; rintro e w3 ⟨rfl, hs3, hc3⟩
          have hb3 := hc3.blk (hb.drew) (show ¬ MemB bs bl b from fun e => e.elim a2 a3)
          have hbt3 := hc3.blk (hbt.drew) (show ¬ MemB bs bl gt from fun e => e.elim a8 a9)
          have k0 := hb3.cell 0
          have k1 := hb3.cell 1
          have k2 := hb3.cell 2
          have k3 := hb3.cell 3
          have kj := hbt3.cell s.j
          rw [(hbt.cell s.j).symm.trans gj] at kj
          simp only [List.getElem?_cons_zero, List.getElem?_cons_succ] at k0 k1 k2 k3)
       | (go_at_call 60; refine (mTask_any s.p s.j _ hm.drew hg).mono ?_; rintro e w2 ⟨rfl, rfl⟩))
    have hc5 : Chg (PmB b bi bs bl) w w3 := ((Chg.undrew (k := 1) hc3).stB (b := bi)).pmB
    have f2 := hb3.free 2
    go_wp2_with fail
    have hb4 := hb3.set' 2 (.int .i64 (s.j + 1)) (l' := pmL bm (.slice (some ⟨gt, 0, none⟩) s.tasks.length cap) (s.j + 1) s.p iv (s.pc.val b)) rfl
    have hcb : Chg (fun k => k = b) w3 (w3.setCell ⟨b, 2, none⟩ (.int .i64 (s.j + 1))) := (Chg.refl (fun k => k = b) w3).setCell ⟨b, 2, none⟩ _ (fun _ => rfl)
    have hs4 := hs3.chg hcb (Ne.symm a2) (Ne.symm a3)
    have hbt4 := hcb.blk hbt3 a6
    have hc6 := hc5.trans (hcb.mono (fun _ _ e => .inl e))
    generalize w3.setCell ⟨b, 2, none⟩ (.int .i64 (s.j + 1)) = w4 at *
    have m1 := hb4.cell 1
    have m2 := hb4.cell 2
    have m5 := hb4.cell 5
    have f5 := hb4.free 5
    simp only [List.getElem?_cons_zero, List.getElem?_cons_succ] at m1 m2 m5
    go_wp2_with fail
    go_region_held3 (fun w' => w'.cell? ⟨b, 1, none⟩ = some (.slice (some ⟨gt, 0, none⟩) s.tasks.length cap) ∧ w'.cell? ⟨b, 2, none⟩ = some (.int .i64 (s.j + 1))) (exact ⟨m1, m2⟩) (fail)
    go_wp2_with fail
    go_end0
    have hcc : Chg (fun k => k = b) w4 (w4.drew.setCell ⟨b, 5, none⟩ ((PPc.many).val b)) := ((Chg.refl (fun k => k = b) w4).drew).setCell ⟨b, 5, none⟩ _ (fun _ => rfl)
    refine ⟨rfl, ⟨ap, hall, ⟨hlen, by simp; omega⟩, hrng, _, iv, hb4.drew.set' 5 _ rfl, .inr ⟨cap, rest, rfl, hcc.blk hbt4 a6⟩, fun e => e.elim⟩, hs4.chg hcc (Ne.symm a2) (Ne.symm a3), hc6.trans (hcc.mono (fun _ _ e => .inl e))⟩
  · rw [if_neg hq]
    have hqb : (((s.j : Int) + 1) == (s.tasks.length : Int)) = false := by simp; omega
    have HQ : Hid (¬ s.j + 1 = s.tasks.length) := hq
    clear hq
    go_enter Tryz.func107, Tryz.ntmps107
    go_wp2_with fail
    go_region_held3 (fun w' => w'.cell? ⟨b, 0, none⟩ = some (.pointer (some ⟨bm, 0, none⟩)) ∧ w'.cell? ⟨b, 1, none⟩ = some (.slice (some ⟨gt, 0, none⟩) s.tasks.length cap) ∧ w'.cell? ⟨b, 2, none⟩ = some (.int .i64 s.j) ∧ w'.cell? ⟨b, 3, none⟩ = some (.int .i64 s.p) ∧ w'.cell? ⟨gt, s.j, none⟩ = some (.int .u64 tk))
      (first | exact ⟨g0, g1, g2, g3, gj⟩ | exact ⟨k0, k1, k2, k3, kj⟩)
      (first
       | (go_at_call 21; refine (put_any (pTask c s.p s.j) tk _ hs.drew hU).mono ?_; rintro e w3 ⟨rfl, hs3, hc3⟩
          have hb3 := hc3.blk (hb.drew) (show ¬ MemB bs bl b from fun e => e.elim a2 a3)
          have hbt3 := hc3.blk (hbt.drew) (show ¬ MemB bs bl gt from fun e => e.elim a8 a9)
          have k0 := hb3.cell 0
          have k1 := hb3.cell 1
          have k2 := hb3.cell 2
          have k3 := hb3.cell 3
          have kj := hbt3.cell s.j
          rw [(hbt.cell s.j).symm.trans gj] at kj
          simp only [List.getElem?_cons_zero, List.getElem?_cons_succ] at k0 k1 k2 k3)
       | (go_at_call 60; refine (mTask_any s.p s.j _ hm.drew hg).mono ?_; rintro e w2 ⟨rfl, rfl⟩))
    have hc5 : Chg (PmB b bi bs bl) w w3 := ((Chg.undrew (k := 1) hc3).stB (b := bi)).pmB
    have f2 := hb3.free 2
    go_wp2_with fail
    have hb4 := hb3.set' 2 (.int .i64 (s.j + 1)) (l' := pmL bm (.slice (some ⟨gt, 0, none⟩) s.tasks.length cap) (s.j + 1) s.p iv (s.pc.val b)) rfl
    have hcb : Chg (fun k => k = b) w3 (w3.setCell ⟨b, 2, none⟩ (.int .i64 (s.j + 1))) := (Chg.refl (fun k => k = b) w3).setCell ⟨b, 2, none⟩ _ (fun _ => rfl)
    have hs4 := hs3.chg hcb (Ne.symm a2) (Ne.symm a3)
    have hbt4 := hcb.blk hbt3 a6
    have hc6 := hc5.trans (hcb.mono (fun _ _ e => .inl e))
    generalize w3.setCell ⟨b, 2, none⟩ (.int .i64 (s.j + 1)) = w4 at *
    have m1 := hb4.cell 1
    have m2 := hb4.cell 2
    have m5 := hb4.cell 5
    have f5 := hb4.free 5
    simp only [List.getElem?_cons_zero, List.getElem?_cons_succ] at m1 m2 m5
    go_wp2_with fail
    go_region_held3 (fun w' => w'.cell? ⟨b, 1, none⟩ = some (.slice (some ⟨gt, 0, none⟩) s.tasks.length cap) ∧ w'.cell? ⟨b, 2, none⟩ = some (.int .i64 (s.j + 1))) (exact ⟨m1, m2⟩) (fail)
    go_wp2_with fail
    go_end0
    have hk : Kept w4 w4.drew := (Below.refl _ _).drew
    exact ⟨rfl, ⟨ap, hall, ⟨hlen, by simp; omega⟩, hrng, _, iv, by rw [← hp]; exact hb4.drew, .inr ⟨cap, rest, rfl, hk.blk hbt4⟩, fun e => e.elim⟩, hs4.drew, hc6.drew⟩

/-- How many tasks; then the pool. -/
def pmMany (c : Cfg) (mem : List Int) (s : PM) : List Int × PM :=
  (mput mem (pPack c s.p 0) s.tasks.length, { s with pc := .last, x := ⟨.pushHead, 4, s.p, 0, 0⟩ })

theorem many_does {b bi gt bm bs bl B : Nat} {c : Cfg} {s : PM} {mem : List Int} {n : Int} (w : World) (hg : Good c) (h : PmAt w b bi gt bm bs bl s) (hs : StoreAt w bs bl mem n) (hm : MapAt w B bm c) (hp : s.pc = .many) (hlt : gt < w.heap.size) :
    Calls Tryz.prog 114 #[.pointer (some ⟨b, 0, none⟩), .pointer (some ⟨bs, 0, none⟩)] w fun e w' => e = .returned (.tuple #[]) ∧
      (∃ bi', PmAt w' b bi' gt bm bs bl (pmMany c mem s).2 ∧ w.heap.size ≤ bi') ∧ StoreAt w' bs bl (pmMany c mem s).1 (cnt n) ∧ Chg (PmB b bi bs bl) w w' := by
  obtain ⟨ap, hall, hlen, ⟨hp0, hp1⟩, tv, iv, hb, ht, hin⟩ := h
  obtain ⟨a1, a2, a3, a4, a5, a6, a7, a8, a9⟩ := id ap
  obtain ⟨tp, tc, htv⟩ : ∃ tp tc, tv = .slice tp s.tasks.length tc := by
    rcases ht with ⟨h0, h1⟩ | ⟨cap, rest, h1, _⟩
    · exact ⟨none, 0, by rw [h1, h0]; rfl⟩
    · exact ⟨_, _, h1⟩
  subst htv
  have g0 := hb.cell 0
  have g1 := hb.cell 1
  have g3 := hb.cell 3
  simp only [List.getElem?_cons_zero, List.getElem?_cons_succ] at g0 g1 g3
  have hU : U (s.tasks.length : Int) := by unfold U; omega
  have x1 : IntKind.u64.wrap (s.tasks.length : Int) = s.tasks.length := by rw [IntKind.wrap_u64]; omega
  have hl4 := hlen.1
  unfold pmMany
  go_enter Tryz.func114, Tryz.ntmps114
  go_wp2_with fail
  go_region_held3 (fun w' => w'.cell? ⟨b, 0, none⟩ = some (.pointer (some ⟨bm, 0, none⟩)) ∧ w'.cell? ⟨b, 1, none⟩ = some (.slice tp s.tasks.length tc) ∧ w'.cell? ⟨b, 3, none⟩ = some (.int .i64 s.p))
    (first | exact ⟨g0, g1, g3⟩ | exact ⟨k0, k1, k3⟩)
    (first
     | (go_at_call 21; refine (put_any (pPack c s.p 0) s.tasks.length _ hs.drew hU).mono ?_; rintro e w3 ⟨rfl, hs3, hc3⟩
        have hb3 := hc3.blk (hb.drew) (show ¬ MemB bs bl b from fun e => e.elim a2 a3)
        have k0 := hb3.cell 0
        have k1 := hb3.cell 1
        have k3 := hb3.cell 3
        simp only [List.getElem?_cons_zero, List.getElem?_cons_succ] at k0 k1 k3)
     | (go_at_call 59; refine (mMany_any s.p _ hm.drew hg).mono ?_; rintro e w2 ⟨rfl, rfl⟩))
  have hc5 : Chg (PmB b bi bs bl) w w3 := ((Chg.undrew (k := 1) hc3).stB (b := bi)).pmB
  have ht3 := ht.chg (Chg.undrew (k := 1) hc3) (show ¬ MemB bs bl gt from fun e => e.elim a8 a9)
  go_wp2_with fail
  go_region_held3 (fun w' => w'.cell? ⟨b, 0, none⟩ = some (.pointer (some ⟨bm, 0, none⟩)) ∧ w'.cell? ⟨b, 3, none⟩ = some (.int .i64 s.p))
    (first | exact ⟨k0, k3⟩ | exact ⟨q0, q3⟩ | exact ⟨keepCell q0 (by simp), keepCell q3 (by simp)⟩)
    (first
     | (go_at_call 56; refine (mPool_any _ _).mono ?_; rintro e w4 ⟨rfl, rfl⟩)
     | (go_at_call 117; refine (push_any _ hp0 hp1).mono ?_; rintro e w5 ⟨rfl, hsm5, hsz5, hk5⟩
        have hb5 := hk5.blk (hb3.drew)
        have q0 := hb5.cell 0
        have q3 := hb5.cell 3
        have q4 := hb5.cell 4
        have f4 := hb5.free 4
        have q5 := hb5.cell 5
        have f5 := hb5.free 5
        simp only [List.getElem?_cons_zero, List.getElem?_cons_succ] at q0 q3 q4 q5))
  all_goals
    go_wp2_with fail
    go_end0
    have hcb : Chg (fun k => k = b) w5 ((w5.setCell ⟨b, 4, none⟩ (.pointer (some ⟨w3.heap.size, 0, none⟩))).setCell ⟨b, 5, none⟩ ((PPc.last).val b)) := ((Chg.refl (fun k => k = b) w5).setCell ⟨b, 4, none⟩ _ (fun _ => rfl)).setCell ⟨b, 5, none⟩ _ (fun _ => rfl)
    have l1 := hb3.lt
    have l2 := hs3.lt
    have l3 : w.heap.size ≤ w3.heap.size := hc5.size
    have hs5 := (hs3.drew.kept hk5).chg hcb (Ne.symm a2) (Ne.symm a3)
    have ht5 := (ht3.chg (Chg.drew (Chg.refl (fun _ => False) w3)) id).chg (Chg.ofBelow (S := fun _ => False) hk5) id
    have hsm6 : SmAt ((w5.setCell ⟨b, 4, none⟩ (.pointer (some ⟨w3.heap.size, 0, none⟩))).setCell ⟨b, 5, none⟩ ((PPc.last).val b)) w3.heap.size 35 bm ⟨.pushHead, 4, s.p, 0, 0⟩ := by
      obtain ⟨ok, t, hbx⟩ := hsm5
      exact ⟨ok, t, hcb.blk hbx (by show ¬ w3.heap.size = b; omega)⟩
    have hc7 : Chg (PmB b bi bs bl) w w5 := hc5.trans (Chg.ofBelow (S := PmB b bi bs bl) (w := w3) ⟨hk5.os, hk5.tape, hk5.output, hk5.size, hk5.block⟩)
    exact ⟨rfl, ⟨w3.heap.size, ⟨⟨by omega, a2, a3, by omega, by omega, a6, by omega, a8, a9⟩, hall, hlen, ⟨hp0, hp1⟩, _, _, (hb5.set' 4 _ rfl).set' 5 _ rfl, ht5.chg hcb a6, fun _ => ⟨rfl, hsm6, rfl⟩⟩, l3⟩, hs5, hc7.trans (hcb.mono (fun _ _ e => .inl e))⟩

end Go.Proofs.YtfbcadknimfhjaaGreat
