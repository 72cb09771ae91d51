/- A marker that looks for a task: its machine; what is next with the bag: walked. -/
import Derived.Test.YtapdpclgbpgklaaGreatPkSteal
namespace Go.Proofs.YtapdpclgbpgklaaGreat
open Go.RowKit

theorem bag_neq0 (W : World) : (binOp .neq 105 (.agg #[.int .i64 0, .int .i64 0, .int .i64 0]) (.agg #[.int .i64 0, .int .i64 0, .int .i64 0])).run Tryz.prog W = .ok (.bool false) W := by kernel_rfl

theorem bag_neq (a b d : Int) (h : ¬ (a = 0 ∧ b = 0 ∧ d = 0)) (W : World) : (binOp .neq 105 (.agg #[.int .i64 a, .int .i64 b, .int .i64 d]) (.agg #[.int .i64 0, .int .i64 0, .int .i64 0])).run Tryz.prog W = .ok (.bool true) W := by
  rcases a with (_ | a) | a
  · rcases b with (_ | b) | b
    · rcases d with (_ | d) | d
      · exact absurd ⟨rfl, rfl, rfl⟩ h
      · clear h; kernel_rfl
      · clear h; kernel_rfl
    · clear h; kernel_rfl
    · clear h; kernel_rfl
  · clear h; kernel_rfl
  · clear h; kernel_rfl

theorem zero4 : (0 : Int) ≤ 0 ∧ (0 : Int) ≤ 4 := by omega

theorem PmAt.blt {w : World} {b bi gt bm bs bl : Nat} {s : PM} (h : PmAt w b bi gt bm bs bl s) : b < w.heap.size := by
  obtain ⟨_, _, hbb, _⟩ := h.ex
  exact hbb.lt

theorem PmAt.bilt {w : World} {b bi gt bm bs bl : Nat} {s : PM} (h : PmAt w b bi gt bm bs bl s) (hin : s.pc.inner) : bi < w.heap.size := by
  obtain ⟨_, _, _, _, hi⟩ := h.ex
  obtain ⟨_, ⟨_, _, hq⟩, _⟩ := hi hin
  exact hq.lt

/-- What a marker that looks for a task does next. -/
inductive KPc where
  | done | own | first | back | take | many | steal
deriving DecidableEq

def KPc.val (b : Nat) : KPc → Value
  | .done => .nilFunc
  | .own => .func (.func 105) #[.pointer (some ⟨b, 0, none⟩)] #[]
  | .first => .func (.func 171) #[.pointer (some ⟨b, 0, none⟩)] #[]
  | .back => .func (.func 173) #[.pointer (some ⟨b, 0, none⟩)] #[]
  | .take => .func (.func 175) #[.pointer (some ⟨b, 0, none⟩)] #[]
  | .many => .func (.func 188) #[.pointer (some ⟨b, 0, none⟩)] #[]
  | .steal => .func (.func 190) #[.pointer (some ⟨b, 0, none⟩)] #[]

def KPc.fin : KPc → Bool
  | .done => true
  | _ => false

/-- What it knows. -/
structure KS where
  pc : KPc
  i : Int
  bp : Int
  ba : Int
  bn : Int
  draw : Int
  task : Int
  found : Bool
  dq : DQ
  pk : PM
  vi : Int
  st : ST

/-- The machine's words, but for what it holds. -/
structure KV where
  i : Int
  bp : Int
  ba : Int
  bn : Int
  draw : Int
  task : Int
  found : Bool

def KS.kv (s : KS) : KV := ⟨s.i, s.bp, s.ba, s.bn, s.draw, s.task, s.found⟩

abbrev skL (bm : Nat) (s : KV) (ev pv nx : Value) : List Value := [.pointer (some ⟨bm, 0, none⟩), .int .i64 s.i, .int .i64 s.bp, .int .i64 s.ba, .int .i64 s.bn, .int .i64 s.draw, ev, pv, .int .u64 s.task, .bool s.found, nx]

abbrev takePM : PM := ⟨.last, [], 0, 0, ⟨.popHead, 4, 0, 0, 0⟩⟩
abbrev backPM (p : Int) : PM := ⟨.last, [], 0, 0, ⟨.pushHead, 5, p, 0, 0⟩⟩

/-- What is next with the bag. -/
def unpackK (c : Cfg) (s : KS) : KS :=
  if s.bp ≠ 0 ∧ s.ba < s.bn then { s with pc := .first }
  else if 1 ≤ s.bp ∧ s.bp ≤ manyI c then { s with pc := .back, pk := backPM s.bp, bp := 0, ba := 0, bn := 0 }
  else { s with pc := .take, pk := takePM, bp := 0, ba := 0, bn := 0 }

def endK (s : KS) (x : Int) : KS := { s with pc := .done, task := x, found := true }

/-- From whom it steals. -/
def victim (all i draw : Int) : Int :=
  if all < 2 then -1
  else if (draw.tmod all + all).tmod all = i then ((draw.tmod all + all).tmod all + 1).tmod all
  else (draw.tmod all + all).tmod all

/-- A seek's machine stands at x; it owns O. -/
structure SkAt (w : World) (x bm bs bl : Nat) (c : Cfg) (s : KS) (O : Nat → Prop) : Prop where
  ut : U s.task
  act : s.pc ≠ .done → (0 ≤ s.i ∧ s.i < c.mks) ∧ (0 ≤ s.ba ∧ s.ba ≤ 4) ∧ (0 ≤ s.bn ∧ s.bn ≤ 4)
  own : ∀ k, O k → k < w.heap.size ∧ k ≠ bs ∧ k ≠ bl
  xin : O x
  fst : s.pc = .first → s.ba < s.bn
  ex : ∃ ev pv, Blk w x 166 (skL bm s.kv ev pv (s.pc.val x)) ∧
    (s.pc = .own → s.dq.pc.fin = false ∧ ∃ b q1 q2, ev = .pointer (some ⟨b, 0, none⟩) ∧ DqAt w b q1 q2 (endsOf c s.i) s.dq ∧ O b ∧ O q1 ∧ O q2 ∧ x ≠ b ∧ x ≠ q1 ∧ x ≠ q2) ∧
    ((s.pc = .back ∨ s.pc = .take) → s.pk.pc.fin = false ∧ PmOk s.pk ∧ s.pk.tasks = [] ∧ ∃ b bi, pv = .pointer (some ⟨b, 0, none⟩) ∧ PmAt w b bi bm bm bs bl s.pk ∧ O b ∧ O bi ∧ x ≠ b ∧ x ≠ bi) ∧
    (s.pc = .many → (0 ≤ s.pk.p ∧ s.pk.p < 4294967296) ∧ ∃ b, pv = .pointer (some ⟨b, 0, none⟩) ∧ PkGot w b s.pk.p ∧ O b ∧ x ≠ b) ∧
    (s.pc = .steal → s.st.pc.fin = false ∧ ∃ b q1 q2, ev = .pointer (some ⟨b, 0, none⟩) ∧ StAt w b q1 q2 (endsOf c s.vi) s.st ∧ O b ∧ O q1 ∧ O q2 ∧ x ≠ b ∧ x ≠ q1 ∧ x ≠ q2)

theorem SkAt.chg {w w' : World} {S : Nat → Prop} {x bm bs bl : Nat} {c : Cfg} {s : KS} {O : Nat → Prop} (h : SkAt w x bm bs bl c s O) (k : Chg S w w') (hS : ∀ q, O q → ¬ S q) (hb : ¬ S bm) : SkAt w' x bm bs bl c s O := by
  obtain ⟨ut, act, own, xin, fst, ev, pv, hx, h1, h2, h3, h4⟩ := h
  refine ⟨ut, act, fun q hq => ⟨Nat.lt_of_lt_of_le (own q hq).1 k.size, (own q hq).2⟩, xin, fst, ev, pv, k.blk hx (hS _ xin), fun e => ?_, fun e => ?_, fun e => ?_, fun e => ?_⟩
  · obtain ⟨y, b, q1, q2, rfl, hd, o1, o2, o3, n⟩ := h1 e
    exact ⟨y, b, q1, q2, rfl, hd.chg k (hS _ o1) (hS _ o2) (hS _ o3), o1, o2, o3, n⟩
  · obtain ⟨y1, y2, y3, b, bi, rfl, hp, o1, o2, n⟩ := h2 e
    exact ⟨y1, y2, y3, b, bi, rfl, hp.chg k (hS _ o1) (hS _ o2) hb, o1, o2, n⟩
  · obtain ⟨y1, b, rfl, hp, o1, n⟩ := h3 e
    exact ⟨y1, b, rfl, hp.chg k (hS _ o1), o1, n⟩
  · obtain ⟨y, b, q1, q2, rfl, hd, o1, o2, o3, n⟩ := h4 e
    exact ⟨y, b, q1, q2, rfl, hd.chg k (hS _ o1) (hS _ o2) (hS _ o3), o1, o2, o3, n⟩

theorem SkAt.kept {w w' : World} {x bm bs bl : Nat} {c : Cfg} {s : KS} {O : Nat → Prop} (h : SkAt w x bm bs bl c s O) (k : Kept w w') : SkAt w' x bm bs bl c s O :=
  h.chg (Chg.ofBelow (S := fun _ => False) k) (fun _ _ => id) id

theorem SkAt.more {w : World} {x bm bs bl : Nat} {c : Cfg} {s : KS} {O O' : Nat → Prop} (h : SkAt w x bm bs bl c s O) (hO : ∀ k, O k → O' k) (hO' : ∀ k, O' k → k < w.heap.size ∧ k ≠ bs ∧ k ≠ bl) : SkAt w x bm bs bl c s O' := by
  obtain ⟨ut, act, own, xin, fst, ev, pv, hx, h1, h2, h3, h4⟩ := h
  refine ⟨ut, act, hO', hO _ xin, fst, ev, pv, hx, fun e => ?_, fun e => ?_, fun e => ?_, fun e => ?_⟩
  · obtain ⟨y, b, q1, q2, rfl, hd, o1, o2, o3, n⟩ := h1 e
    exact ⟨y, b, q1, q2, rfl, hd, hO _ o1, hO _ o2, hO _ o3, n⟩
  · obtain ⟨y1, y2, y3, b, bi, rfl, hp, o1, o2, n⟩ := h2 e
    exact ⟨y1, y2, y3, b, bi, rfl, hp, hO _ o1, hO _ o2, n⟩
  · obtain ⟨y1, b, rfl, hp, o1, n⟩ := h3 e
    exact ⟨y1, b, rfl, hp, hO _ o1, n⟩
  · obtain ⟨y, b, q1, q2, rfl, hd, o1, o2, o3, n⟩ := h4 e
    exact ⟨y, b, q1, q2, rfl, hd, hO _ o1, hO _ o2, hO _ o3, n⟩

/-- A machine that holds nothing. -/
theorem SkAt.plain {w : World} {x bm bs bl : Nat} {c : Cfg} {s : KS} {O : Nat → Prop} {ev pv : Value} (ut : U s.task) (act : s.pc ≠ .done → (0 ≤ s.i ∧ s.i < c.mks) ∧ (0 ≤ s.ba ∧ s.ba ≤ 4) ∧ (0 ≤ s.bn ∧ s.bn ≤ 4)) (own : ∀ k, O k → k < w.heap.size ∧ k ≠ bs ∧ k ≠ bl) (xin : O x) (fst : s.pc = .first → s.ba < s.bn) (hx : Blk w x 166 (skL bm s.kv ev pv (s.pc.val x))) (hp : s.pc = .done ∨ s.pc = .first) : SkAt w x bm bs bl c s O := by
  refine ⟨ut, act, own, xin, fst, ev, pv, hx, fun e => ?_, fun e => ?_, fun e => ?_, fun e => ?_⟩
  · rcases hp with h | h <;> rw [h] at e <;> cases e
  · rcases hp with h | h <;> rw [h] at e <;> rcases e with e | e <;> cases e
  · rcases hp with h | h <;> rw [h] at e <;> cases e
  · rcases hp with h | h <;> rw [h] at e <;> cases e

set_option maxRecDepth 8000 in
set_option maxHeartbeats 3200000 in
theorem unpack_does {x bm bs bl B : Nat} {c : Cfg} {s : KS} {O : Nat → Prop} {mem : List Int} {n : Int} {ev pv nx : Value} (w : World) (hg : Good c) (hx : Blk w x 166 (skL bm s.kv ev pv nx)) (ut : U s.task) (act : (0 ≤ s.i ∧ s.i < c.mks) ∧ (0 ≤ s.ba ∧ s.ba ≤ 4) ∧ (0 ≤ s.bn ∧ s.bn ≤ 4)) (own : ∀ k, O k → k < w.heap.size ∧ k ≠ bs ∧ k ≠ bl) (xin : O x) (hs : StoreAt w bs bl mem n) (hm : MapAt w B bm c) (_hB : B ≤ w.heap.size) (hO : ∀ k, O k → B ≤ k) (hBs : B ≤ bs) (hBl : B ≤ bl) :
    Calls Tryz.prog 149 #[.pointer (some ⟨x, 0, none⟩)] w fun r w' => r = .returned (.tuple #[]) ∧ SkAt w' x bm bs bl c (unpackK c s) (Grow O w w') ∧ StoreAt w' bs bl mem n ∧ Chg (OwnB O bs bl) w w' := by
  obtain ⟨pc, i, bp, ba, bn, draw, task, found, dq, pk, vi, st⟩ := s
  simp only [KS.kv] at hx ut act
  have lx := own x xin
  obtain ⟨ls, ll⟩ := hs.lt
  have hbm := hm.cells.1
  have xB := hO x xin
  have g0 := hx.cell 0
  have g2 := hx.cell 2
  have g3 := hx.cell 3
  have g4 := hx.cell 4
  have fx := fun k => hx.free k
  simp only [List.getElem?_cons_zero, List.getElem?_cons_succ] at g0 g2 g3 g4
  have hxd := hx.drew
  have hdd : Chg (OwnB O bs bl) w w.drew := (Chg.refl _ w).drew
  have ownD : ∀ k, Grow O w w.drew k → k < w.drew.heap.size ∧ k ≠ bs ∧ k ≠ bl := grow_ok own (Nat.le_refl _) ls ll
  by_cases hp0 : bp = 0
  · subst hp0
    have hval : ¬ (1 ≤ (0 : Int) ∧ (0 : Int) ≤ manyI c) := by omega
    have HP : Hid (pPack c 0 1 = -1) := if_neg hval
    by_cases hz : ba = 0 ∧ bn = 0
    · obtain ⟨rfl, rfl⟩ := hz
      have HU : Hid (unpackK c ⟨pc, i, 0, 0, 0, draw, task, found, dq, pk, vi, st⟩ = ⟨.take, i, 0, 0, 0, draw, task, found, dq, takePM, vi, st⟩) := by unfold Hid unpackK; simp
      go_enter Tryz.func149, Tryz.ntmps149
      go_wp2_with fail
      go_region
      generalize hwd : w.drew = w1 at *
      have hs1 : StoreAt w1 bs bl mem n := hwd ▸ hs.drew
      have hm1 : MapAt w1 B bm c := hwd ▸ hm.drew
      clear g0 g2 g3 g4
      have k0 := hxd.cell 0
      have k2 := hxd.cell 2
      have k3 := hxd.cell 3
      have k4 := hxd.cell 4
      have f2 := hxd.free 2
      have f3 := hxd.free 3
      have f4 := hxd.free 4
      simp only [List.getElem?_cons_zero, List.getElem?_cons_succ] at k0 k2 k3 k4
      have hbn := bag_neq0
      go_wp2_with fail
      have hx2 : Blk w1 x 166 (skL bm ⟨i, 0, 0, 0, draw, task, found⟩ ev pv nx) := hxd
      have hc2 : Chg (fun k => k = x) w1 w1 := Chg.refl _ _
      have hs2 := hs1
      have hm2 := hm1
      generalize hw2 : w1 = w2 at *
      clear k0 k2 k3 k4 f2 f3 f4 hxd hs1 hm1
      have hcw2 : Chg (OwnB O bs bl) w w2 := hdd.trans (hc2.mono (fun k _ e => .inl (e ▸ xin)))
      have z2 := hcw2.size
      have hl2 := hs2.lt
      have k0 := hx2.cell 0
      simp only [List.getElem?_cons_zero] at k0
      refine (back_no 0 w2 hg hm2 (by omega) hval).mono ?_; rintro r w3 ⟨rfl, _, hk3⟩
      have hx3 := hk3.blk hx2
      have hs3 := hs2.kept hk3
      have hm3 := hm2.kept hk3 (by omega)
      have z3 := hk3.size
      have k7 := hx3.cell 7
      have f7 := hx3.free 7
      have k10 := hx3.cell 10
      have f10 := hx3.free 10
      have j0 := hx3.cell 0
      simp only [List.getElem?_cons_zero, List.getElem?_cons_succ] at k7 k10 j0
      go_wp2_with fail
      have hx4 : Blk ((w3.setCell ⟨x, 7, none⟩ (.pointer (some ⟨w2.heap.size, 0, none⟩))).setCell ⟨x, 10, none⟩ ((KPc.back).val x)) x 166 (skL bm ⟨i, 0, 0, 0, draw, task, found⟩ ev (.pointer (some ⟨w2.heap.size, 0, none⟩)) ((KPc.back).val x)) := (hx3.set' 7 _ rfl).set' 10 _ rfl
      have hc4 : Chg (fun k => k = x) w3 ((w3.setCell ⟨x, 7, none⟩ (.pointer (some ⟨w2.heap.size, 0, none⟩))).setCell ⟨x, 10, none⟩ ((KPc.back).val x)) := ((Chg.refl (fun k => k = x) w3).setCell ⟨x, 7, none⟩ _ (fun _ => rfl)).setCell ⟨x, 10, none⟩ _ (fun _ => rfl)
      simp only [KPc.val] at hx4 hc4
      generalize (w3.setCell ⟨x, 7, none⟩ (.pointer (some ⟨w2.heap.size, 0, none⟩))).setCell ⟨x, 10, none⟩ (.func (.func 173) #[.pointer (some ⟨x, 0, none⟩)] #[]) = w4 at *
      have hs4 := hs3.chg hc4 (Ne.symm lx.2.1) (Ne.symm lx.2.2)
      have hm4 := hm3.below (hc4.toBelow (B := B) (by omega) (fun q hq e => by omega)) (Nat.le_refl _)
      have hcw4 : Chg (OwnB O bs bl) w w4 := (hcw2.trans (Chg.ofBelow hk3)).trans (hc4.mono (fun k _ e => .inl (e ▸ xin)))
      have z4 := hc4.size
      clear k7 f7 k10 f10 k0 j0
      have k0 := hx4.cell 0
      simp only [List.getElem?_cons_zero] at k0
      refine (mLink_any 0 w4 hm4 hg).mono ?_; rintro r wx ⟨rfl, rfl⟩
      rw [HP.out]
      go_wp2_with fail
      refine (take_any w4 hs4 hm4 bm (by omega) (by omega) (by omega)).mono ?_; rintro r w5 ⟨pb, pbi, rfl, hp5, y1, y2, hk5⟩
      have hx5 := hk5.blk hx4
      have hs5 := hs4.kept hk5
      have z5 := hk5.size
      have k7 := hx5.cell 7
      have f7 := hx5.free 7
      have k10 := hx5.cell 10
      have f10 := hx5.free 10
      simp only [List.getElem?_cons_zero, List.getElem?_cons_succ] at k7 k10
      go_wp2_with fail
      go_end0
      have hc6 : Chg (fun k => k = x) w5 ((w5.setCell ⟨x, 7, none⟩ (.pointer (some ⟨pb, 0, none⟩))).setCell ⟨x, 10, none⟩ ((KPc.take).val x)) := ((Chg.refl (fun k => k = x) w5).setCell ⟨x, 7, none⟩ _ (fun _ => rfl)).setCell ⟨x, 10, none⟩ _ (fun _ => rfl)
      have hp6 := hp5.chg hc6 (show ¬ pb = x by omega) (show ¬ pbi = x by omega) (show ¬ bm = x by omega)
      have lb := hp6.blt
      have lbi := hp6.bilt trivial
      have hcw6 : Chg (OwnB O bs bl) w ((w5.setCell ⟨x, 7, none⟩ (.pointer (some ⟨pb, 0, none⟩))).setCell ⟨x, 10, none⟩ ((KPc.take).val x)) := (hcw4.trans (Chg.ofBelow hk5)).trans (hc6.mono (fun k _ e => .inl (e ▸ xin)))
      rw [HU.out]
      exact ⟨rfl, ⟨ut, fun _ => ⟨act.1, zero4, zero4⟩, grow_ok own hcw6.size ls ll, .inl xin, fun e => (by cases e), ev, _, (hx5.set' 7 _ rfl).set' 10 _ rfl, fun e => (by cases e), fun _ => ⟨rfl, ⟨fun e => (by cases e), fun e => by cases e⟩, rfl, pb, pbi, rfl, hp6, .inr ⟨by omega, lb⟩, .inr ⟨by omega, lbi⟩, by omega, by omega⟩, fun e => (by cases e), fun e => by cases e⟩, hs5.chg hc6 (Ne.symm lx.2.1) (Ne.symm lx.2.2), hcw6⟩
    · have HNZ : Hid (¬ (ba = 0 ∧ bn = 0)) := hz
      have HU : Hid (unpackK c ⟨pc, i, 0, ba, bn, draw, task, found, dq, pk, vi, st⟩ = ⟨.take, i, 0, 0, 0, draw, task, found, dq, takePM, vi, st⟩) := by unfold Hid unpackK; simp
      clear hz
      go_enter Tryz.func149, Tryz.ntmps149
      go_wp2_with fail
      go_region
      generalize hwd : w.drew = w1 at *
      have hs1 : StoreAt w1 bs bl mem n := hwd ▸ hs.drew
      have hm1 : MapAt w1 B bm c := hwd ▸ hm.drew
      clear g0 g2 g3 g4
      have k0 := hxd.cell 0
      have k2 := hxd.cell 2
      have k3 := hxd.cell 3
      have k4 := hxd.cell 4
      have f2 := hxd.free 2
      have f3 := hxd.free 3
      have f4 := hxd.free 4
      simp only [List.getElem?_cons_zero, List.getElem?_cons_succ] at k0 k2 k3 k4
      have hbn := bag_neq 0 ba bn (fun h => HNZ.out h.2)
      go_wp2_with fail
      have hx2 : Blk (((w1.setCell ⟨x, 2, none⟩ (.int .i64 0)).setCell ⟨x, 3, none⟩ (.int .i64 0)).setCell ⟨x, 4, none⟩ (.int .i64 0)) x 166 (skL bm ⟨i, 0, 0, 0, draw, task, found⟩ ev pv nx) := ((hxd.set' 2 _ rfl).set' 3 _ rfl).set' 4 _ rfl
      have hc2 : Chg (fun k => k = x) w1 (((w1.setCell ⟨x, 2, none⟩ (.int .i64 0)).setCell ⟨x, 3, none⟩ (.int .i64 0)).setCell ⟨x, 4, none⟩ (.int .i64 0)) := (((Chg.refl (fun k => k = x) w1).setCell ⟨x, 2, none⟩ _ (fun _ => rfl)).setCell ⟨x, 3, none⟩ _ (fun _ => rfl)).setCell ⟨x, 4, none⟩ _ (fun _ => rfl)
      have hs2 := hs1.chg hc2 (Ne.symm lx.2.1) (Ne.symm lx.2.2)
      have hm2 := hm1.below (hc2.toBelow (B := B) (by have := hdd.size; omega) (fun q hq e => by omega)) (Nat.le_refl _)
      generalize ((w1.setCell ⟨x, 2, none⟩ (.int .i64 0)).setCell ⟨x, 3, none⟩ (.int .i64 0)).setCell ⟨x, 4, none⟩ (.int .i64 0) = w2 at *
      clear k0 k2 k3 k4 f2 f3 f4 hxd hs1 hm1
      have hcw2 : Chg (OwnB O bs bl) w w2 := hdd.trans (hc2.mono (fun k _ e => .inl (e ▸ xin)))
      have z2 := hcw2.size
      have hl2 := hs2.lt
      have k0 := hx2.cell 0
      simp only [List.getElem?_cons_zero] at k0
      go_wp2_with fail
      refine (back_no 0 w2 hg hm2 (by omega) hval).mono ?_; rintro r w3 ⟨rfl, _, hk3⟩
      have hx3 := hk3.blk hx2
      have hs3 := hs2.kept hk3
      have hm3 := hm2.kept hk3 (by omega)
      have z3 := hk3.size
      have k7 := hx3.cell 7
      have f7 := hx3.free 7
      have k10 := hx3.cell 10
      have f10 := hx3.free 10
      have j0 := hx3.cell 0
      simp only [List.getElem?_cons_zero, List.getElem?_cons_succ] at k7 k10 j0
      go_wp2_with fail
      have hx4 : Blk ((w3.setCell ⟨x, 7, none⟩ (.pointer (some ⟨w2.heap.size, 0, none⟩))).setCell ⟨x, 10, none⟩ ((KPc.back).val x)) x 166 (skL bm ⟨i, 0, 0, 0, draw, task, found⟩ ev (.pointer (some ⟨w2.heap.size, 0, none⟩)) ((KPc.back).val x)) := (hx3.set' 7 _ rfl).set' 10 _ rfl
      have hc4 : Chg (fun k => k = x) w3 ((w3.setCell ⟨x, 7, none⟩ (.pointer (some ⟨w2.heap.size, 0, none⟩))).setCell ⟨x, 10, none⟩ ((KPc.back).val x)) := ((Chg.refl (fun k => k = x) w3).setCell ⟨x, 7, none⟩ _ (fun _ => rfl)).setCell ⟨x, 10, none⟩ _ (fun _ => rfl)
      simp only [KPc.val] at hx4 hc4
      generalize (w3.setCell ⟨x, 7, none⟩ (.pointer (some ⟨w2.heap.size, 0, none⟩))).setCell ⟨x, 10, none⟩ (.func (.func 173) #[.pointer (some ⟨x, 0, none⟩)] #[]) = w4 at *
      have hs4 := hs3.chg hc4 (Ne.symm lx.2.1) (Ne.symm lx.2.2)
      have hm4 := hm3.below (hc4.toBelow (B := B) (by omega) (fun q hq e => by omega)) (Nat.le_refl _)
      have hcw4 : Chg (OwnB O bs bl) w w4 := (hcw2.trans (Chg.ofBelow hk3)).trans (hc4.mono (fun k _ e => .inl (e ▸ xin)))
      have z4 := hc4.size
      clear k7 f7 k10 f10 k0 j0
      have k0 := hx4.cell 0
      simp only [List.getElem?_cons_zero] at k0
      refine (mLink_any 0 w4 hm4 hg).mono ?_; rintro r wx ⟨rfl, rfl⟩
      rw [HP.out]
      go_wp2_with fail
      refine (take_any w4 hs4 hm4 bm (by omega) (by omega) (by omega)).mono ?_; rintro r w5 ⟨pb, pbi, rfl, hp5, y1, y2, hk5⟩
      have hx5 := hk5.blk hx4
      have hs5 := hs4.kept hk5
      have z5 := hk5.size
      have k7 := hx5.cell 7
      have f7 := hx5.free 7
      have k10 := hx5.cell 10
      have f10 := hx5.free 10
      simp only [List.getElem?_cons_zero, List.getElem?_cons_succ] at k7 k10
      go_wp2_with fail
      go_end0
      have hc6 : Chg (fun k => k = x) w5 ((w5.setCell ⟨x, 7, none⟩ (.pointer (some ⟨pb, 0, none⟩))).setCell ⟨x, 10, none⟩ ((KPc.take).val x)) := ((Chg.refl (fun k => k = x) w5).setCell ⟨x, 7, none⟩ _ (fun _ => rfl)).setCell ⟨x, 10, none⟩ _ (fun _ => rfl)
      have hp6 := hp5.chg hc6 (show ¬ pb = x by omega) (show ¬ pbi = x by omega) (show ¬ bm = x by omega)
      have lb := hp6.blt
      have lbi := hp6.bilt trivial
      have hcw6 : Chg (OwnB O bs bl) w ((w5.setCell ⟨x, 7, none⟩ (.pointer (some ⟨pb, 0, none⟩))).setCell ⟨x, 10, none⟩ ((KPc.take).val x)) := (hcw4.trans (Chg.ofBelow hk5)).trans (hc6.mono (fun k _ e => .inl (e ▸ xin)))
      rw [HU.out]
      exact ⟨rfl, ⟨ut, fun _ => ⟨act.1, zero4, zero4⟩, grow_ok own hcw6.size ls ll, .inl xin, fun e => (by cases e), ev, _, (hx5.set' 7 _ rfl).set' 10 _ rfl, fun e => (by cases e), fun _ => ⟨rfl, ⟨fun e => (by cases e), fun e => by cases e⟩, rfl, pb, pbi, rfl, hp6, .inr ⟨by omega, lb⟩, .inr ⟨by omega, lbi⟩, by omega, by omega⟩, fun e => (by cases e), fun e => by cases e⟩, hs5.chg hc6 (Ne.symm lx.2.1) (Ne.symm lx.2.2), hcw6⟩
  · have hb1 : (bp == 0) = false := by simpa using hp0
    have hb2 : decide (bp = 0) = false := decide_eq_false hp0
    have hb3 : (bp != 0) = true := by simpa using hp0
    by_cases hlt : ba < bn
    · have HU : Hid (unpackK c ⟨pc, i, bp, ba, bn, draw, task, found, dq, pk, vi, st⟩ = ⟨.first, i, bp, ba, bn, draw, task, found, dq, pk, vi, st⟩) := by unfold Hid unpackK; simp only []; rw [if_pos ⟨hp0, hlt⟩]
      go_enter Tryz.func149, Tryz.ntmps149
      go_wp2_with fail
      go_region
      generalize hwd : w.drew = w1 at *
      have k10 := hxd.cell 10
      have f10 := hxd.free 10
      simp only [List.getElem?_cons_zero, List.getElem?_cons_succ] at k10
      go_wp2_with fail
      refine bodyPost_ret (results_none rfl _ _ _) rfl ?_
      have hcb : Chg (fun k => k = x) w1 (w1.setCell ⟨x, 10, none⟩ ((KPc.first).val x)) := (Chg.refl _ w1).setCell _ _ (fun _ => rfl)
      have hs1 : StoreAt w1 bs bl mem n := hwd ▸ hs.drew
      have hcc := hdd.trans (hcb.mono (fun k _ e => .inl (e ▸ xin)))
      rw [HU.out]
      exact ⟨rfl, SkAt.plain ut (fun _ => act) (grow_ok own hcc.size ls ll) (.inl xin) (fun _ => hlt) (hxd.set' 10 _ rfl) (.inr rfl), hs1.chg hcb (Ne.symm lx.2.1) (Ne.symm lx.2.2), hcc⟩
    · have HNZ : Hid (¬ (bp = 0 ∧ ba = 0 ∧ bn = 0)) := fun h => hp0 h.1
      by_cases hval : 1 ≤ bp ∧ bp ≤ manyI c
      · obtain ⟨lk, hlk⟩ : ∃ lk : Int, pPack c bp 1 = lk := ⟨_, rfl⟩
        have hlk0 : ¬ lk < 0 := by have := pack_place hg hval.1 hval.2 (j := 1) (by omega) (by omega); omega
        have HP : Hid (pPack c bp 1 = lk) := hlk
        clear hlk
        have HU : Hid (unpackK c ⟨pc, i, bp, ba, bn, draw, task, found, dq, pk, vi, st⟩ = ⟨.back, i, 0, 0, 0, draw, task, found, dq, backPM bp, vi, st⟩) := by unfold Hid unpackK; simp only []; rw [if_neg (fun h => hlt h.2), if_pos hval]
        go_enter Tryz.func149, Tryz.ntmps149
        go_wp2_with fail
        go_region
        generalize hwd : w.drew = w1 at *
        have hs1 : StoreAt w1 bs bl mem n := hwd ▸ hs.drew
        have hm1 : MapAt w1 B bm c := hwd ▸ hm.drew
        clear g0 g2 g3 g4
        have k0 := hxd.cell 0
        have k2 := hxd.cell 2
        have k3 := hxd.cell 3
        have k4 := hxd.cell 4
        have f2 := hxd.free 2
        have f3 := hxd.free 3
        have f4 := hxd.free 4
        simp only [List.getElem?_cons_zero, List.getElem?_cons_succ] at k0 k2 k3 k4
        have hbn := bag_neq bp ba bn HNZ.out
        go_wp2_with fail
        have hx2 : Blk (((w1.setCell ⟨x, 2, none⟩ (.int .i64 0)).setCell ⟨x, 3, none⟩ (.int .i64 0)).setCell ⟨x, 4, none⟩ (.int .i64 0)) x 166 (skL bm ⟨i, 0, 0, 0, draw, task, found⟩ ev pv nx) := ((hxd.set' 2 _ rfl).set' 3 _ rfl).set' 4 _ rfl
        have hc2 : Chg (fun k => k = x) w1 (((w1.setCell ⟨x, 2, none⟩ (.int .i64 0)).setCell ⟨x, 3, none⟩ (.int .i64 0)).setCell ⟨x, 4, none⟩ (.int .i64 0)) := (((Chg.refl (fun k => k = x) w1).setCell ⟨x, 2, none⟩ _ (fun _ => rfl)).setCell ⟨x, 3, none⟩ _ (fun _ => rfl)).setCell ⟨x, 4, none⟩ _ (fun _ => rfl)
        have hs2 := hs1.chg hc2 (Ne.symm lx.2.1) (Ne.symm lx.2.2)
        have hm2 := hm1.below (hc2.toBelow (B := B) (by have := hdd.size; omega) (fun q hq e => by omega)) (Nat.le_refl _)
        generalize ((w1.setCell ⟨x, 2, none⟩ (.int .i64 0)).setCell ⟨x, 3, none⟩ (.int .i64 0)).setCell ⟨x, 4, none⟩ (.int .i64 0) = w2 at *
        clear k0 k2 k3 k4 f2 f3 f4 hxd hs1 hm1
        have hcw2 : Chg (OwnB O bs bl) w w2 := hdd.trans (hc2.mono (fun k _ e => .inl (e ▸ xin)))
        have z2 := hcw2.size
        have hl2 := hs2.lt
        have k0 := hx2.cell 0
        simp only [List.getElem?_cons_zero] at k0
        go_wp2_with fail
        refine (back_yes bp w2 hg hs2 hm2 (by omega) bm (by omega) (by omega) (by omega) hval.1 hval.2).mono ?_; rintro r w3 ⟨pb, pbi, rfl, hp3, y1, y2, hk3⟩
        have hx3 := hk3.blk hx2
        have hs3 := hs2.kept hk3
        have hm3 := hm2.kept hk3 (by omega)
        have z3 := hk3.size
        have k7 := hx3.cell 7
        have f7 := hx3.free 7
        have k10 := hx3.cell 10
        have f10 := hx3.free 10
        have j0 := hx3.cell 0
        simp only [List.getElem?_cons_zero, List.getElem?_cons_succ] at k7 k10 j0
        go_wp2_with fail
        have hx4 : Blk ((w3.setCell ⟨x, 7, none⟩ (.pointer (some ⟨pb, 0, none⟩))).setCell ⟨x, 10, none⟩ ((KPc.back).val x)) x 166 (skL bm ⟨i, 0, 0, 0, draw, task, found⟩ ev (.pointer (some ⟨pb, 0, none⟩)) ((KPc.back).val x)) := (hx3.set' 7 _ rfl).set' 10 _ rfl
        have hc4 : Chg (fun k => k = x) w3 ((w3.setCell ⟨x, 7, none⟩ (.pointer (some ⟨pb, 0, none⟩))).setCell ⟨x, 10, none⟩ ((KPc.back).val x)) := ((Chg.refl (fun k => k = x) w3).setCell ⟨x, 7, none⟩ _ (fun _ => rfl)).setCell ⟨x, 10, none⟩ _ (fun _ => rfl)
        simp only [KPc.val] at hx4 hc4
        generalize (w3.setCell ⟨x, 7, none⟩ (.pointer (some ⟨pb, 0, none⟩))).setCell ⟨x, 10, none⟩ (.func (.func 173) #[.pointer (some ⟨x, 0, none⟩)] #[]) = w4 at *
        have hs4 := hs3.chg hc4 (Ne.symm lx.2.1) (Ne.symm lx.2.2)
        have hm4 := hm3.below (hc4.toBelow (B := B) (by omega) (fun q hq e => by omega)) (Nat.le_refl _)
        have hcw4 : Chg (OwnB O bs bl) w w4 := (hcw2.trans (Chg.ofBelow hk3)).trans (hc4.mono (fun k _ e => .inl (e ▸ xin)))
        have z4 := hc4.size
        clear k7 f7 k10 f10 k0 j0
        have k0 := hx4.cell 0
        simp only [List.getElem?_cons_zero] at k0
        refine (mLink_any bp w4 hm4 hg).mono ?_; rintro r wx ⟨rfl, rfl⟩
        rw [HP.out]
        have hp4 := hp3.chg hc4 (show ¬ pb = x by omega) (show ¬ pbi = x by omega) (show ¬ bm = x by omega)
        have lb := hp4.blt
        have lbi := hp4.bilt trivial
        go_wp2_with fail
        go_end0
        rw [HU.out]
        exact ⟨rfl, ⟨ut, fun _ => ⟨act.1, zero4, zero4⟩, grow_ok own hcw4.size ls ll, .inl xin, fun e => (by cases e), ev, _, hx4, fun e => (by cases e), fun _ => ⟨rfl, ⟨fun e => (by cases e), fun e => by cases e⟩, rfl, pb, pbi, rfl, hp4, .inr ⟨by omega, lb⟩, .inr ⟨by omega, lbi⟩, by omega, by omega⟩, fun e => (by cases e), fun e => by cases e⟩, hs4, hcw4⟩
      · have HP : Hid (pPack c bp 1 = -1) := if_neg hval
        have HU : Hid (unpackK c ⟨pc, i, bp, ba, bn, draw, task, found, dq, pk, vi, st⟩ = ⟨.take, i, 0, 0, 0, draw, task, found, dq, takePM, vi, st⟩) := by unfold Hid unpackK; simp only []; rw [if_neg (fun h => hlt h.2), if_neg hval]
        go_enter Tryz.func149, Tryz.ntmps149
        go_wp2_with fail
        go_region
        generalize hwd : w.drew = w1 at *
        have hs1 : StoreAt w1 bs bl mem n := hwd ▸ hs.drew
        have hm1 : MapAt w1 B bm c := hwd ▸ hm.drew
        clear g0 g2 g3 g4
        have k0 := hxd.cell 0
        have k2 := hxd.cell 2
        have k3 := hxd.cell 3
        have k4 := hxd.cell 4
        have f2 := hxd.free 2
        have f3 := hxd.free 3
        have f4 := hxd.free 4
        simp only [List.getElem?_cons_zero, List.getElem?_cons_succ] at k0 k2 k3 k4
        have hbn := bag_neq bp ba bn HNZ.out
        go_wp2_with fail
        have hx2 : Blk (((w1.setCell ⟨x, 2, none⟩ (.int .i64 0)).setCell ⟨x, 3, none⟩ (.int .i64 0)).setCell ⟨x, 4, none⟩ (.int .i64 0)) x 166 (skL bm ⟨i, 0, 0, 0, draw, task, found⟩ ev pv nx) := ((hxd.set' 2 _ rfl).set' 3 _ rfl).set' 4 _ rfl
        have hc2 : Chg (fun k => k = x) w1 (((w1.setCell ⟨x, 2, none⟩ (.int .i64 0)).setCell ⟨x, 3, none⟩ (.int .i64 0)).setCell ⟨x, 4, none⟩ (.int .i64 0)) := (((Chg.refl (fun k => k = x) w1).setCell ⟨x, 2, none⟩ _ (fun _ => rfl)).setCell ⟨x, 3, none⟩ _ (fun _ => rfl)).setCell ⟨x, 4, none⟩ _ (fun _ => rfl)
        have hs2 := hs1.chg hc2 (Ne.symm lx.2.1) (Ne.symm lx.2.2)
        have hm2 := hm1.below (hc2.toBelow (B := B) (by have := hdd.size; omega) (fun q hq e => by omega)) (Nat.le_refl _)
        generalize ((w1.setCell ⟨x, 2, none⟩ (.int .i64 0)).setCell ⟨x, 3, none⟩ (.int .i64 0)).setCell ⟨x, 4, none⟩ (.int .i64 0) = w2 at *
        clear k0 k2 k3 k4 f2 f3 f4 hxd hs1 hm1
        have hcw2 : Chg (OwnB O bs bl) w w2 := hdd.trans (hc2.mono (fun k _ e => .inl (e ▸ xin)))
        have z2 := hcw2.size
        have hl2 := hs2.lt
        have k0 := hx2.cell 0
        simp only [List.getElem?_cons_zero] at k0
        go_wp2_with fail
        refine (back_no bp w2 hg hm2 (by omega) hval).mono ?_; rintro r w3 ⟨rfl, _, hk3⟩
        have hx3 := hk3.blk hx2
        have hs3 := hs2.kept hk3
        have hm3 := hm2.kept hk3 (by omega)
        have z3 := hk3.size
        have k7 := hx3.cell 7
        have f7 := hx3.free 7
        have k10 := hx3.cell 10
        have f10 := hx3.free 10
        have j0 := hx3.cell 0
        simp only [List.getElem?_cons_zero, List.getElem?_cons_succ] at k7 k10 j0
        go_wp2_with fail
        have hx4 : Blk ((w3.setCell ⟨x, 7, none⟩ (.pointer (some ⟨w2.heap.size, 0, none⟩))).setCell ⟨x, 10, none⟩ ((KPc.back).val x)) x 166 (skL bm ⟨i, 0, 0, 0, draw, task, found⟩ ev (.pointer (some ⟨w2.heap.size, 0, none⟩)) ((KPc.back).val x)) := (hx3.set' 7 _ rfl).set' 10 _ rfl
        have hc4 : Chg (fun k => k = x) w3 ((w3.setCell ⟨x, 7, none⟩ (.pointer (some ⟨w2.heap.size, 0, none⟩))).setCell ⟨x, 10, none⟩ ((KPc.back).val x)) := ((Chg.refl (fun k => k = x) w3).setCell ⟨x, 7, none⟩ _ (fun _ => rfl)).setCell ⟨x, 10, none⟩ _ (fun _ => rfl)
        simp only [KPc.val] at hx4 hc4
        generalize (w3.setCell ⟨x, 7, none⟩ (.pointer (some ⟨w2.heap.size, 0, none⟩))).setCell ⟨x, 10, none⟩ (.func (.func 173) #[.pointer (some ⟨x, 0, none⟩)] #[]) = w4 at *
        have hs4 := hs3.chg hc4 (Ne.symm lx.2.1) (Ne.symm lx.2.2)
        have hm4 := hm3.below (hc4.toBelow (B := B) (by omega) (fun q hq e => by omega)) (Nat.le_refl _)
        have hcw4 : Chg (OwnB O bs bl) w w4 := (hcw2.trans (Chg.ofBelow hk3)).trans (hc4.mono (fun k _ e => .inl (e ▸ xin)))
        have z4 := hc4.size
        clear k7 f7 k10 f10 k0 j0
        have k0 := hx4.cell 0
        simp only [List.getElem?_cons_zero] at k0
        refine (mLink_any bp w4 hm4 hg).mono ?_; rintro r wx ⟨rfl, rfl⟩
        rw [HP.out]
        go_wp2_with fail
        refine (take_any w4 hs4 hm4 bm (by omega) (by omega) (by omega)).mono ?_; rintro r w5 ⟨pb, pbi, rfl, hp5, y1, y2, hk5⟩
        have hx5 := hk5.blk hx4
        have hs5 := hs4.kept hk5
        have z5 := hk5.size
        have k7 := hx5.cell 7
        have f7 := hx5.free 7
        have k10 := hx5.cell 10
        have f10 := hx5.free 10
        simp only [List.getElem?_cons_zero, List.getElem?_cons_succ] at k7 k10
        go_wp2_with fail
        go_end0
        have hc6 : Chg (fun k => k = x) w5 ((w5.setCell ⟨x, 7, none⟩ (.pointer (some ⟨pb, 0, none⟩))).setCell ⟨x, 10, none⟩ ((KPc.take).val x)) := ((Chg.refl (fun k => k = x) w5).setCell ⟨x, 7, none⟩ _ (fun _ => rfl)).setCell ⟨x, 10, none⟩ _ (fun _ => rfl)
        have hp6 := hp5.chg hc6 (show ¬ pb = x by omega) (show ¬ pbi = x by omega) (show ¬ bm = x by omega)
        have lb := hp6.blt
        have lbi := hp6.bilt trivial
        have hcw6 : Chg (OwnB O bs bl) w ((w5.setCell ⟨x, 7, none⟩ (.pointer (some ⟨pb, 0, none⟩))).setCell ⟨x, 10, none⟩ ((KPc.take).val x)) := (hcw4.trans (Chg.ofBelow hk5)).trans (hc6.mono (fun k _ e => .inl (e ▸ xin)))
        rw [HU.out]
        exact ⟨rfl, ⟨ut, fun _ => ⟨act.1, zero4, zero4⟩, grow_ok own hcw6.size ls ll, .inl xin, fun e => (by cases e), ev, _, (hx5.set' 7 _ rfl).set' 10 _ rfl, fun e => (by cases e), fun _ => ⟨rfl, ⟨fun e => (by cases e), fun e => by cases e⟩, rfl, pb, pbi, rfl, hp6, .inr ⟨by omega, lb⟩, .inr ⟨by omega, lbi⟩, by omega, by omega⟩, fun e => (by cases e), fun e => by cases e⟩, hs5.chg hc6 (Ne.symm lx.2.1) (Ne.symm lx.2.2), hcw6⟩

end Go.Proofs.YtapdpclgbpgklaaGreat
