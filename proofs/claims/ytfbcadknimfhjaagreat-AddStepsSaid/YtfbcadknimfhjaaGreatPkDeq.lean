/- A marker's deque: what its machine does when it pushes: walked. -/
import Derived.Test.YtfbcadknimfhjaaGreatPkD
import Derived.Test.YtfbcadknimfhjaaGreatPkA
namespace Go.Proofs.YtfbcadknimfhjaaGreat
open Go.RowKit

/-- What a deque's machine does next. -/
inductive DPc where
  | done | pushBottom | pushTop | pushEntry | pushEnd
deriving DecidableEq

/-- What it knows. -/
structure DQ where
  pc : DPc
  b : Int
  t : Int
  wd : Int
  out : Int
  won : Bool

/-- Where its ends stand: top, bottom, the first entry; how many entries. -/
structure DEnds where
  tp : Int
  bt : Int
  en : Int
  rm : Int

def DPc.val (b q1 q2 : Nat) : DPc → Value
  | .done => .nilFunc
  | .pushBottom => .func (.func 86) #[] #[.pointer (some ⟨q1, 0, none⟩), .pointer (some ⟨q2, 0, none⟩)]
  | .pushTop => .func (.func 87) #[.pointer (some ⟨b, 0, none⟩)] #[]
  | .pushEntry => .func (.func 101) #[.pointer (some ⟨b, 0, none⟩)] #[]
  | .pushEnd => .func (.func 111) #[.pointer (some ⟨b, 0, none⟩)] #[]

/-- What a machine begins with. -/
def DPc.first : DPc → Option FuncId
  | .pushBottom => some 70
  | _ => none

abbrev dqL (e : DEnds) (nx : Value) (b t wd out : Int) (won : Bool) : List Value := [.int .i64 e.tp, .int .i64 e.bt, .int .i64 e.en, .int .i64 e.rm, nx, .int .u64 b, .int .u64 t, .int .u64 wd, .int .i64 out, .bool won]

/-- Ends that may be. -/
def DEnds.ok (e : DEnds) : Prop := (-1 ≤ e.en ∧ e.en ≤ 14000) ∧ (0 ≤ e.rm ∧ e.rm ≤ 100)

/-- A machine stands at block b; what it begins with at q1, q2. -/
structure DqAt (w : World) (b q1 q2 : Nat) (e : DEnds) (d : DQ) : Prop where
  ap : b ≠ q1 ∧ b ≠ q2
  ok : U d.b ∧ U d.t ∧ U d.wd
  eok : e.ok
  blk : Blk w b 130 (dqL e (d.pc.val b q1 q2) d.b d.t d.wd d.out d.won)
  box : ∀ f, d.pc.first = some f → Blk w q1 116 [.func (.func f) #[] #[]] ∧ Blk w q2 90 [.pointer (some ⟨b, 0, none⟩)]

/-- An entry's place. -/
def entI (e : DEnds) (at_ : Int) : Int := e.en + at_ % max e.rm 1

/-- One step of a deque's machine. -/
def dqStep (e : DEnds) (mem : List Int) (d : DQ) : List Int × DQ :=
  match d.pc with
  | .done => (mem, d)
  | .pushBottom => (mem, { d with pc := .pushTop, b := mget mem e.bt })
  | .pushTop => (mem, if aheadI d.b (mget mem e.tp) ≥ max e.rm 1 then { d with pc := .done, t := mget mem e.tp, wd := 0, out := 2 } else { d with pc := .pushEntry, t := mget mem e.tp })
  | .pushEntry => (mput mem (entI e d.b) d.wd, { d with pc := .pushEnd })
  | .pushEnd => (mput mem e.bt ((d.b + 1) % 18446744073709551616), { d with pc := .done, wd := 0, out := 1 })

theorem entry_any (e : DEnds) (x : Int) (w : World) (he : e.ok) (hx : U x) :
    Calls Tryz.prog 110 #[.agg #[.int .i64 e.tp, .int .i64 e.bt, .int .i64 e.en, .int .i64 e.rm], .int .u64 x] w fun r w' => r = .returned (.int .i64 (entI e x)) ∧ Kept w w' := by
  obtain ⟨⟨n0, n1⟩, ⟨r0, r1⟩⟩ := he
  obtain ⟨x0, x1⟩ := hx
  have hb := Blk.new w 71 [.int .i64 e.tp, .int .i64 e.bt, .int .i64 e.en, .int .i64 e.rm]
  have hk : Kept w (w.alloc (.cells ([.int .i64 e.tp, .int .i64 e.bt, .int .i64 e.en, .int .i64 e.rm] : List Value).toArray 71)) := (Below.refl _ _).alloc (Nat.le_refl _) _
  have g2 := hb.cell 2
  have g3 := hb.cell 3
  simp only [List.getElem?_cons_zero, List.getElem?_cons_succ] at g2 g3
  obtain ⟨mx, hmx⟩ : ∃ mx : Int, max e.rm 1 = mx := ⟨_, rfl⟩
  have m0 : 0 < mx := by omega
  have m1 : mx ≤ 100 := by omega
  have mz : ¬ mx = 0 := by omega
  have y1 : IntKind.u64.wrap mx = mx := wraps_u64 _ (by omega) (by omega)
  have y2 : x.tmod mx = x % mx := Int.tmod_eq_emod_of_nonneg x0
  have z0 : 0 ≤ x % mx := Int.emod_nonneg _ mz
  have z1 : x % mx < mx := Int.emod_lt_of_pos _ m0
  have HE : Hid (entI e x = e.en + x % mx) := by unfold Hid entI; rw [hmx]
  generalize hz : x % mx = z at *
  have y3 : IntKind.i64.wrap z = z := IntWalk.i64_in _ (by omega)
  have y4 : IntKind.i64.wrap (e.en + z) = e.en + z := IntWalk.i64_in _ (by omega)
  rw [HE.out]
  go_enter Tryz.func110, Tryz.ntmps110
  go_wp2_with fail
  go_region_held3 (fun w' => w'.cell? ⟨w.heap.size, 2, none⟩ = some (.int .i64 e.en) ∧ w'.cell? ⟨w.heap.size, 3, none⟩ = some (.int .i64 e.rm)) (first | exact ⟨g2, g3⟩) (fail)
  go_wp2_with fail
  go_ret
  exact ⟨rfl, hk.drew⟩

theorem dend_any {b : Nat} {e : DEnds} {nx : Value} {bb t wd out : Int} {won : Bool} (o : Int) (w : World) (hb : Blk w b 130 (dqL e nx bb t wd out won)) :
    Calls Tryz.prog 103 #[.pointer (some ⟨b, 0, none⟩), .int .i64 o] w fun r w' => r = .returned (.tuple #[]) ∧ Blk w' b 130 (dqL e .nilFunc bb t wd o won) ∧ Chg (fun k => k = b) w w' := by
  have g8 := hb.cell 8
  have f8 := hb.free 8
  have g4 := hb.cell 4
  have f4 := hb.free 4
  simp only [List.getElem?_cons_zero, List.getElem?_cons_succ] at g8 g4
  go_enter Tryz.func103, Tryz.ntmps103
  go_wp2_with fail
  go_end0
  exact ⟨rfl, (hb.set' 8 _ rfl).set' 4 _ rfl, ((Chg.refl (fun k => k = b) w).setCell ⟨b, 8, none⟩ _ (fun _ => rfl)).setCell ⟨b, 4, none⟩ _ (fun _ => rfl)⟩

/-- The blocks that a step may change. -/
abbrev DqB (b bs bl : Nat) : Nat → Prop := fun k => k = b ∨ k = bs ∨ k = bl

set_option maxRecDepth 8000 in
theorem dqBottom_does {b q1 q2 bs bl : Nat} {e : DEnds} {d : DQ} {mem : List Int} {n : Int} (w : World) (h : DqAt w b q1 q2 e d) (hs : StoreAt w bs bl mem n) (h1 : b ≠ bs) (h2 : b ≠ bl) (hp : d.pc = .pushBottom) :
    Calls Tryz.prog 70 #[.pointer (some ⟨b, 0, none⟩), .pointer (some ⟨bs, 0, none⟩)] w fun r w' => r = .returned (.tuple #[]) ∧ DqAt w' b q1 q2 e (dqStep e mem d).2 ∧ StoreAt w' bs bl (dqStep e mem d).1 (cnt n) ∧ Chg (DqB b bs bl) w w' := by
  obtain ⟨ap, ⟨u1, u2, u3⟩, eok, hb, _⟩ := h
  have hU := mget_all hs.all e.bt
  simp only [dqStep, hp] at hb ⊢
  have g1 := hb.cell 1
  simp only [List.getElem?_cons_zero, List.getElem?_cons_succ] at g1
  go_enter Tryz.func70, Tryz.ntmps70
  go_wp2_with fail
  refine (load_any e.bt w hs).mono ?_; rintro r w2 ⟨rfl, hs2, hc2⟩
  have hb2 := hc2.blk hb h1
  have g5 := hb2.cell 5
  have f5 := hb2.free 5
  have g4 := hb2.cell 4
  have f4 := hb2.free 4
  simp only [List.getElem?_cons_zero, List.getElem?_cons_succ] at g5 g4
  go_wp2_with fail
  go_end0
  have hcb : Chg (fun k => k = b) w2 ((w2.setCell ⟨b, 5, none⟩ (.int .u64 (mget mem e.bt))).setCell ⟨b, 4, none⟩ ((DPc.pushTop).val b q1 q2)) := ((Chg.refl (fun k => k = b) w2).setCell ⟨b, 5, none⟩ _ (fun _ => rfl)).setCell ⟨b, 4, none⟩ _ (fun _ => rfl)
  exact ⟨rfl, ⟨ap, ⟨hU, u2, u3⟩, eok, (hb2.set' 5 _ rfl).set' 4 _ rfl, fun _ e => by cases e⟩, hs2.chg hcb (Ne.symm h1) (Ne.symm h2), (hc2.mono (fun _ _ e => .inr (.inl e))).trans (hcb.mono (fun _ _ e => .inl e))⟩

/-- The first step goes by a closure. -/
theorem dqBegun_does {b q1 q2 bs bl : Nat} {e : DEnds} {d : DQ} {mem : List Int} {n : Int} (w : World) (h : DqAt w b q1 q2 e d) (hs : StoreAt w bs bl mem n) (h1 : b ≠ bs) (h2 : b ≠ bl) (hp : d.pc = .pushBottom) :
    Calls Tryz.prog 86 #[.pointer (some ⟨bs, 0, none⟩), .pointer (some ⟨q1, 0, none⟩), .pointer (some ⟨q2, 0, none⟩)] w fun r w' => r = .returned (.tuple #[]) ∧ DqAt w' b q1 q2 e (dqStep e mem d).2 ∧ StoreAt w' bs bl (dqStep e mem d).1 (cnt n) ∧ Chg (DqB b bs bl) w w' := by
  obtain ⟨k1, k2⟩ := h.box _ (show d.pc.first = some _ from by rw [hp]; rfl)
  have D := dqBottom_does w h hs h1 h2 hp
  generalize dqStep e mem d = rr at *
  have g1 := k1.cell 0
  have g2 := k2.cell 0
  simp only [List.getElem?_cons_zero] at g1 g2
  go_enter Tryz.func86, Tryz.ntmps86
  go_wp2_with fail
  refine D.mono ?_; rintro r w2 ⟨rfl, hd⟩
  go_wp2_with fail
  go_end0
  exact ⟨rfl, hd⟩

set_option maxRecDepth 8000 in
theorem dqTop_does {b q1 q2 bs bl : Nat} {e : DEnds} {d : DQ} {mem : List Int} {n : Int} (w : World) (h : DqAt w b q1 q2 e d) (hs : StoreAt w bs bl mem n) (h1 : b ≠ bs) (h2 : b ≠ bl) (hp : d.pc = .pushTop) :
    Calls Tryz.prog 87 #[.pointer (some ⟨b, 0, none⟩), .pointer (some ⟨bs, 0, none⟩)] w fun r w' => r = .returned (.tuple #[]) ∧ DqAt w' b q1 q2 e (dqStep e mem d).2 ∧ StoreAt w' bs bl (dqStep e mem d).1 (cnt n) ∧ Chg (DqB b bs bl) w w' := by
  obtain ⟨ap, ⟨⟨u1, u1'⟩, u2, u3⟩, eok, hb, _⟩ := h
  have hU := mget_all hs.all e.tp
  obtain ⟨hU0, hU1⟩ := hU
  have hok := eok
  obtain ⟨_, ⟨r0, r1⟩⟩ := hok
  simp only [dqStep, hp] at hb ⊢
  obtain ⟨mx, hmx⟩ : ∃ mx : Int, max e.rm 1 = mx := ⟨_, rfl⟩
  generalize ht : mget mem e.tp = tt at *
  generalize ha : aheadI d.b tt = aa at *
  rw [hmx]
  have HA : Hid (aheadI d.b tt = aa) := ha
  have HT : Hid (mget mem e.tp = tt) := ht
  clear ha ht
  have g0 := hb.cell 0
  simp only [List.getElem?_cons_zero] at g0
  by_cases hfull : aa ≥ mx
  · rw [if_pos hfull]
    go_enter Tryz.func87, Tryz.ntmps87
    go_wp2_with fail
    refine (load_any e.tp w hs).mono ?_; rintro r w2 ⟨rfl, hs2, hc2⟩
    rw [HT.out]
    have hb2 := hc2.blk hb h1
    have f6 := hb2.free 6
    have g6 := hb2.cell 6
    have f4 := hb2.free 4
    have g4 := hb2.cell 4
    simp only [List.getElem?_cons_zero, List.getElem?_cons_succ] at g6 g4
    go_wp2_with fail
    have hb3 : Blk ((w2.setCell ⟨b, 6, none⟩ (.int .u64 tt)).setCell ⟨b, 4, none⟩ ((DPc.pushEntry).val b q1 q2)) b 130 (dqL e ((DPc.pushEntry).val b q1 q2) d.b tt d.wd d.out d.won) := (hb2.set' 6 _ rfl).set' 4 _ rfl
    have hcb : Chg (fun k => k = b) w2 ((w2.setCell ⟨b, 6, none⟩ (.int .u64 tt)).setCell ⟨b, 4, none⟩ ((DPc.pushEntry).val b q1 q2)) := ((Chg.refl (fun k => k = b) w2).setCell ⟨b, 6, none⟩ _ (fun _ => rfl)).setCell ⟨b, 4, none⟩ _ (fun _ => rfl)
    simp only [DPc.val] at hb3 hcb
    generalize ((w2.setCell ⟨b, 6, none⟩ (.int .u64 tt)).setCell ⟨b, 4, none⟩ (.func (.func 101) #[.pointer (some ⟨b, 0, none⟩)] #[])) = w3 at *
    clear f6 g6 f4 g4
    have q5 := hb3.cell 5
    have q6 := hb3.cell 6
    have q3 := hb3.cell 3
    have q7 := hb3.cell 7
    have p7 := hb3.free 7
    simp only [List.getElem?_cons_zero, List.getElem?_cons_succ] at q5 q6 q3 q7
    have hfull' : mx ≤ aa := hfull
    go_region_held3 (fun w' => w'.cell? ⟨b, 5, none⟩ = some (.int .u64 d.b) ∧ w'.cell? ⟨b, 6, none⟩ = some (.int .u64 tt) ∧ w'.cell? ⟨b, 3, none⟩ = some (.int .i64 e.rm)) (first | exact ⟨q5, q6, q3⟩)
      (first | (go_at_call 102; refine (ahead_any d.b tt _ u1 u1' hU0 hU1).mono ?_; rintro r w4 ⟨rfl, rfl⟩; rw [HA.out]))
    all_goals
      go_wp2_with fail
      have hb4 := hb3.drew.set' 7 (.int .u64 0) (l' := dqL e ((DPc.pushEntry).val b q1 q2) d.b tt 0 d.out d.won) rfl
      have hcc : Chg (fun k => k = b) w3 (w3.drew.setCell ⟨b, 7, none⟩ (.int .u64 0)) := ((Chg.refl (fun k => k = b) w3).drew).setCell ⟨b, 7, none⟩ _ (fun _ => rfl)
      refine (dend_any 2 _ hb4).mono ?_; rintro r w5 ⟨rfl, hb5, hc6⟩
      go_wp2_with fail
      go_end0
      have hc7 := (hcb.trans hcc).trans hc6
      exact ⟨rfl, ⟨ap, ⟨⟨u1, u1'⟩, ⟨hU0, hU1⟩, by show U 0; unfold U; omega⟩, eok, hb5, fun _ e => by cases e⟩, hs2.chg hc7 (Ne.symm h1) (Ne.symm h2), (hc2.mono (fun _ _ e => .inr (.inl e))).trans (hc7.mono (fun _ _ e => .inl e))⟩
  · rw [if_neg hfull]
    go_enter Tryz.func87, Tryz.ntmps87
    go_wp2_with fail
    refine (load_any e.tp w hs).mono ?_; rintro r w2 ⟨rfl, hs2, hc2⟩
    rw [HT.out]
    have hb2 := hc2.blk hb h1
    have f6 := hb2.free 6
    have g6 := hb2.cell 6
    have f4 := hb2.free 4
    have g4 := hb2.cell 4
    simp only [List.getElem?_cons_zero, List.getElem?_cons_succ] at g6 g4
    go_wp2_with fail
    have hb3 : Blk ((w2.setCell ⟨b, 6, none⟩ (.int .u64 tt)).setCell ⟨b, 4, none⟩ ((DPc.pushEntry).val b q1 q2)) b 130 (dqL e ((DPc.pushEntry).val b q1 q2) d.b tt d.wd d.out d.won) := (hb2.set' 6 _ rfl).set' 4 _ rfl
    have hcb : Chg (fun k => k = b) w2 ((w2.setCell ⟨b, 6, none⟩ (.int .u64 tt)).setCell ⟨b, 4, none⟩ ((DPc.pushEntry).val b q1 q2)) := ((Chg.refl (fun k => k = b) w2).setCell ⟨b, 6, none⟩ _ (fun _ => rfl)).setCell ⟨b, 4, none⟩ _ (fun _ => rfl)
    simp only [DPc.val] at hb3 hcb
    generalize ((w2.setCell ⟨b, 6, none⟩ (.int .u64 tt)).setCell ⟨b, 4, none⟩ (.func (.func 101) #[.pointer (some ⟨b, 0, none⟩)] #[])) = w3 at *
    clear f6 g6 f4 g4
    have q5 := hb3.cell 5
    have q6 := hb3.cell 6
    have q3 := hb3.cell 3
    simp only [List.getElem?_cons_zero, List.getElem?_cons_succ] at q5 q6 q3
    have hfull' : aa < mx := by omega
    clear hfull
    go_region_held3 (fun w' => w'.cell? ⟨b, 5, none⟩ = some (.int .u64 d.b) ∧ w'.cell? ⟨b, 6, none⟩ = some (.int .u64 tt) ∧ w'.cell? ⟨b, 3, none⟩ = some (.int .i64 e.rm)) (first | exact ⟨q5, q6, q3⟩)
      (first | (go_at_call 102; refine (ahead_any d.b tt _ u1 u1' hU0 hU1).mono ?_; rintro r w4 ⟨rfl, rfl⟩; rw [HA.out]))
    all_goals
      go_wp2_with fail
      go_end0
      have hc7 := hcb.drew
      exact ⟨rfl, ⟨ap, ⟨⟨u1, u1'⟩, ⟨hU0, hU1⟩, u3⟩, eok, hb3.drew, fun _ e => by cases e⟩, (hs2.chg hc7 (Ne.symm h1) (Ne.symm h2)), (hc2.mono (fun _ _ e => .inr (.inl e))).trans (hc7.mono (fun _ _ e => .inl e))⟩

set_option maxRecDepth 8000 in
theorem dqEntry_does {b q1 q2 bs bl : Nat} {e : DEnds} {d : DQ} {mem : List Int} {n : Int} (w : World) (h : DqAt w b q1 q2 e d) (hs : StoreAt w bs bl mem n) (h1 : b ≠ bs) (h2 : b ≠ bl) (hp : d.pc = .pushEntry) :
    Calls Tryz.prog 101 #[.pointer (some ⟨b, 0, none⟩), .pointer (some ⟨bs, 0, none⟩)] w fun r w' => r = .returned (.tuple #[]) ∧ DqAt w' b q1 q2 e (dqStep e mem d).2 ∧ StoreAt w' bs bl (dqStep e mem d).1 (cnt n) ∧ Chg (DqB b bs bl) w w' := by
  obtain ⟨ap, ⟨u1, u2, u3⟩, eok, hb, _⟩ := h
  simp only [dqStep, hp] at hb ⊢
  have g0 := hb.cell 0
  have g1 := hb.cell 1
  have g2 := hb.cell 2
  have g3 := hb.cell 3
  have g5 := hb.cell 5
  have g7 := hb.cell 7
  simp only [List.getElem?_cons_zero, List.getElem?_cons_succ] at g0 g1 g2 g3 g5 g7
  go_enter Tryz.func101, Tryz.ntmps101
  go_wp2_with fail
  go_region_held3 (fun w' => w'.cell? ⟨b, 0, none⟩ = some (.int .i64 e.tp) ∧ w'.cell? ⟨b, 1, none⟩ = some (.int .i64 e.bt) ∧ w'.cell? ⟨b, 2, none⟩ = some (.int .i64 e.en) ∧ w'.cell? ⟨b, 3, none⟩ = some (.int .i64 e.rm) ∧ w'.cell? ⟨b, 5, none⟩ = some (.int .u64 d.b) ∧ w'.cell? ⟨b, 7, none⟩ = some (.int .u64 d.wd))
    (first | exact ⟨g0, g1, g2, g3, g5, g7⟩ | exact ⟨k0, k1, k2, k3, k5, k7⟩ | exact ⟨j0, j1, j2, j3, j5, j7⟩)
    (first
     | (go_at_call 110; refine (entry_any e d.b _ eok u1).mono ?_; rintro r w2 ⟨rfl, hk2⟩
        have hb2 := hk2.blk hb.drew
        have k0 := hb2.cell 0
        have k1 := hb2.cell 1
        have k2 := hb2.cell 2
        have k3 := hb2.cell 3
        have k5 := hb2.cell 5
        have k7 := hb2.cell 7
        simp only [List.getElem?_cons_zero, List.getElem?_cons_succ] at k0 k1 k2 k3 k5 k7)
     | (go_at_call 21; refine (put_any (entI e d.b) d.wd _ (hs.drew.kept hk2) u3).mono ?_; rintro r w3 ⟨rfl, hs3, hc3⟩
        have hb3 := hc3.blk hb2 (show ¬ MemB bs bl b from fun e => e.elim h1 h2)
        have j0 := hb3.cell 0
        have j1 := hb3.cell 1
        have j2 := hb3.cell 2
        have j3 := hb3.cell 3
        have j5 := hb3.cell 5
        have j7 := hb3.cell 7
        simp only [List.getElem?_cons_zero, List.getElem?_cons_succ] at j0 j1 j2 j3 j5 j7))
  have f4 := hb3.free 4
  have g4 := hb3.cell 4
  simp only [List.getElem?_cons_zero, List.getElem?_cons_succ] at g4
  go_wp2_with fail
  go_end0
  have hc5 : Chg (DqB b bs bl) w w3 := ((Chg.refl (DqB b bs bl) w).drew).trans ((Chg.ofBelow (S := DqB b bs bl) hk2).trans (hc3.mono (fun _ _ e => .inr e)))
  have hcb : Chg (fun k => k = b) w3 (w3.setCell ⟨b, 4, none⟩ ((DPc.pushEnd).val b q1 q2)) := (Chg.refl (fun k => k = b) w3).setCell ⟨b, 4, none⟩ _ (fun _ => rfl)
  exact ⟨rfl, ⟨ap, ⟨u1, u2, u3⟩, eok, hb3.set' 4 _ rfl, fun _ e => by cases e⟩, hs3.chg hcb (Ne.symm h1) (Ne.symm h2), hc5.trans (hcb.mono (fun _ _ e => .inl e))⟩

set_option maxRecDepth 8000 in
theorem dqEnd_does {b q1 q2 bs bl : Nat} {e : DEnds} {d : DQ} {mem : List Int} {n : Int} (w : World) (h : DqAt w b q1 q2 e d) (hs : StoreAt w bs bl mem n) (h1 : b ≠ bs) (h2 : b ≠ bl) (hp : d.pc = .pushEnd) :
    Calls Tryz.prog 111 #[.pointer (some ⟨b, 0, none⟩), .pointer (some ⟨bs, 0, none⟩)] w fun r w' => r = .returned (.tuple #[]) ∧ DqAt w' b q1 q2 e (dqStep e mem d).2 ∧ StoreAt w' bs bl (dqStep e mem d).1 (cnt n) ∧ Chg (DqB b bs bl) w w' := by
  obtain ⟨ap, ⟨u1, u2, u3⟩, eok, hb, _⟩ := h
  simp only [dqStep, hp] at hb ⊢
  have hx : U ((d.b + 1) % 18446744073709551616) := by unfold U; omega
  have x1 : IntKind.u64.wrap (d.b + 1) = (d.b + 1) % 18446744073709551616 := IntKind.wrap_u64 _
  have g1 := hb.cell 1
  have g5 := hb.cell 5
  simp only [List.getElem?_cons_zero, List.getElem?_cons_succ] at g1 g5
  generalize hv : (d.b + 1) % 18446744073709551616 = v at *
  clear hv
  go_enter Tryz.func111, Tryz.ntmps111
  go_wp2_with fail
  go_region_held3 (fun w' => w'.cell? ⟨b, 1, none⟩ = some (.int .i64 e.bt) ∧ w'.cell? ⟨b, 5, none⟩ = some (.int .u64 d.b))
    (first | exact ⟨g1, g5⟩ | exact ⟨k1, k5⟩)
    (first
     | (go_at_call 21; refine (put_any e.bt v _ hs.drew hx).mono ?_; rintro r w3 ⟨rfl, hs3, hc3⟩
        have hb3 := hc3.blk hb.drew (show ¬ MemB bs bl b from fun e => e.elim h1 h2)
        have k1 := hb3.cell 1
        have k5 := hb3.cell 5
        simp only [List.getElem?_cons_zero, List.getElem?_cons_succ] at k1 k5))
  have hc5 : Chg (DqB b bs bl) w w3 := ((Chg.refl (DqB b bs bl) w).drew).trans (hc3.mono (fun _ _ e => .inr e))
  have f7 := hb3.free 7
  have g7 := hb3.cell 7
  simp only [List.getElem?_cons_zero, List.getElem?_cons_succ] at g7
  go_wp2_with fail
  have hb4 := hb3.set' 7 (.int .u64 0) (l' := dqL e ((DPc.pushEnd).val b q1 q2) d.b d.t 0 d.out d.won) rfl
  have hcb : Chg (fun k => k = b) w3 (w3.setCell ⟨b, 7, none⟩ (.int .u64 0)) := (Chg.refl (fun k => k = b) w3).setCell ⟨b, 7, none⟩ _ (fun _ => rfl)
  refine (dend_any 1 _ hb4).mono ?_; rintro r w5 ⟨rfl, hb5, hc6⟩
  go_wp2_with fail
  go_end0
  have hc7 := hcb.trans hc6
  exact ⟨rfl, ⟨ap, ⟨u1, u2, by show U 0; unfold U; omega⟩, eok, hb5, fun _ e => by cases e⟩, hs3.chg hc7 (Ne.symm h1) (Ne.symm h2), hc5.trans (hc7.mono (fun _ _ e => .inl e))⟩

end Go.Proofs.YtfbcadknimfhjaaGreat
