/- A task that is done: its machine, and what its steps call: walked. A task that is done: its steps that read no other machine: walked. -/
import Derived.Test.YtapdpclgbpgklaaGreatPkH
import Derived.Test.YtapdpclgbpgklaaGreatPkClaim
import Derived.Test.YtapdpclgbpgklaaGreatPkBuf
import Derived.Test.YtapdpclgbpgklaaGreatPkA
import Derived.Deep.QuietTactic
import Derived.BigQuiet
namespace Go.Proofs.YtapdpclgbpgklaaGreat
open Go.RowKit

/-- What a scan's machine does next. -/
inductive YPc where
  | done | head | count | adds | slot | claims | last
deriving DecidableEq

def YPc.val (b : Nat) : YPc → Value
  | .done => .nilFunc
  | .head => .func (.func 86) #[.pointer (some ⟨b, 0, none⟩)] #[]
  | .count => .func (.func 134) #[.pointer (some ⟨b, 0, none⟩)] #[]
  | .adds => .func (.func 179) #[.pointer (some ⟨b, 0, none⟩)] #[]
  | .slot => .func (.func 156) #[.pointer (some ⟨b, 0, none⟩)] #[]
  | .claims => .func (.func 178) #[.pointer (some ⟨b, 0, none⟩)] #[]
  | .last => .func (.func 157) #[.pointer (some ⟨b, 0, none⟩)] #[]

def YPc.fin : YPc → Bool
  | .done => true
  | _ => false

/-- What it knows. -/
structure YS where
  pc : YPc
  i : Int
  v : Int
  fr : Int
  cy : Int
  p0 : Int
  p1 : Int
  at_ : Int
  w : Int
  cm : CM
  am : AM
  ev : Ev

/-- The machine's words, but for what it holds. -/
structure YV where
  i : Int
  v : Int
  fr : Int
  cy : Int
  p0 : Int
  p1 : Int
  at_ : Int
  w : Int
  ev : Ev

def YS.sv (s : YS) : YV := ⟨s.i, s.v, s.fr, s.cy, s.p0, s.p1, s.at_, s.w, s.ev⟩

abbrev scL (bm : Nat) (s : YV) (cp ap nx : Value) : List Value := [.pointer (some ⟨bm, 0, none⟩), .int .i64 s.i, .int .i64 s.v, .int .i64 s.fr, .int .u64 s.cy, .int .i64 s.p0, .int .i64 s.p1, .int .i64 s.at_, .int .i64 s.w, cp, ap, .int .i64 s.ev.k, .int .i64 s.ev.who, .int .i64 s.ev.a, .int .i64 s.ev.b, .int .i64 s.ev.c, nx]

/-- What is done next with the slots that are left. -/
def slotsPc (at_ p1 : Int) : YPc := if at_ < p1 then .slot else .last

set_option maxRecDepth 8000 in
theorem scSlots_any {x bm : Nat} {s : YV} {cp ap nx : Value} (w : World) (hx : Blk w x 147 (scL bm s cp ap nx)) :
    Calls Tryz.prog 133 #[.pointer (some ⟨x, 0, none⟩)] w fun r w' => r = .returned ((slotsPc s.at_ s.p1).val x) ∧ ∃ n, w' = w.drewN n := by
  have g6 := hx.cell 6
  have g7 := hx.cell 7
  simp only [List.getElem?_cons_zero, List.getElem?_cons_succ] at g6 g7
  by_cases h : s.at_ < s.p1
  · have hd : decide (s.at_ < s.p1) = true := decide_eq_true h
    have H : Hid (slotsPc s.at_ s.p1 = .slot) := if_pos h
    go_enter Tryz.func133, Tryz.ntmps133
    go_wp2_with fail
    go_quiet (fail)
    go_wp2_with fail
    go_ret
    exact ⟨by rw [H.out]; rfl, nq, rfl⟩
  · have hd : decide (s.at_ < s.p1) = false := decide_eq_false h
    have H : Hid (slotsPc s.at_ s.p1 = .last) := if_neg h
    go_enter Tryz.func133, Tryz.ntmps133
    go_wp2_with fail
    go_quiet (fail)
    go_wp2_with fail
    go_ret
    exact ⟨by rw [H.out]; rfl, nq, rfl⟩

set_option maxRecDepth 8000 in
set_option maxHeartbeats 1600000 in
/-- A task is put somewhere. -/
theorem scGive_any {x bm bs bl B : Nat} {c : Cfg} {s : YV} {cp ap nx : Value} (v f : Int) (w : World) (hg : Good c) (hx : Blk w x 147 (scL bm s cp ap nx)) (hm : MapAt w B bm c) (hB : B ≤ w.heap.size) (hbs : bs < w.heap.size) (hbl : bl < w.heap.size) :
    Calls Tryz.prog 159 #[.pointer (some ⟨x, 0, none⟩), .int .i64 v, .int .i64 f] w fun r w' => r = .returned (.tuple #[]) ∧ ∃ a, Blk w' x 147 (scL bm s cp (.pointer (some ⟨a, 0, none⟩)) ((YPc.adds).val x)) ∧ AmAt w' a bm bs bl c s.i (newAM c s.i (pairI v f)) (NewB w w') ∧ Chg (fun k => k = x) w w' := by
  have g0 := hx.cell 0
  have g1 := hx.cell 1
  simp only [List.getElem?_cons_zero, List.getElem?_cons_succ] at g0 g1
  have hv := loI_range v
  have hf := loI_range f
  obtain ⟨hv0, hv1⟩ := hv
  obtain ⟨hf0, hf1⟩ := hf
  have hwv := wrap_u32_loI v
  have hwf := wrap_u32_loI f
  have hU := pairI_U v f
  have hP : Hid (loI v * 4294967296 + loI f = pairI v f) := rfl
  have xl := hx.lt
  generalize pairI v f = pv at *
  generalize loI v = lv at *
  generalize loI f = lf at *
  have D := addNew_any (bm := bm) (bs := bs) (bl := bl) s.i pv w.drew hm.drew hB hg hU hbs hbl
  go_enter Tryz.func159, Tryz.ntmps159
  go_wp2_with fail
  go_region_held3 (fun w' => w'.cell? ⟨x, 0, none⟩ = some (.pointer (some ⟨bm, 0, none⟩)) ∧ w'.cell? ⟨x, 1, none⟩ = some (.int .i64 s.i))
    (first | exact ⟨g0, g1⟩ | exact ⟨k0, k1⟩ | exact ⟨keepSet k0 (by simp), keepSet k1 (by simp)⟩ | exact ⟨keepCell k0 (by simp), keepCell k1 (by simp)⟩)
    (first
     | (go_at_call 38; refine (pair_any lv lf _ hv0 hv1 hf0 hf1).mono ?_; rintro r w5 ⟨rfl, rfl⟩; rw [hP.out])
     | (go_at_call 56; refine D.mono ?_; rintro r w6 ⟨a, rfl, ha6, hk6⟩
        have hx6 := hk6.blk hx.drew
        have k0 := hx6.cell 0
        have k1 := hx6.cell 1
        have k10 := hx6.cell 10
        have f10 := hx6.free 10
        simp only [List.getElem?_cons_zero, List.getElem?_cons_succ] at k0 k1 k10))
  all_goals
    have hx7 : Blk (w6.setCell ⟨x, 10, none⟩ (.pointer (some ⟨a, 0, none⟩))) x 147 (scL bm s cp (.pointer (some ⟨a, 0, none⟩)) nx) := hx6.set' 10 _ rfl
    have hc7 : Chg (fun k => k = x) w6 (w6.setCell ⟨x, 10, none⟩ (.pointer (some ⟨a, 0, none⟩))) := (Chg.refl _ _).setCell _ _ (fun _ => rfl)
    have z6 : w.heap.size ≤ w6.heap.size := hk6.size
    generalize w6.setCell ⟨x, 10, none⟩ (.pointer (some ⟨a, 0, none⟩)) = w7 at *
    clear k0 k1 k10 f10 g0 g1
    have m16 := hx7.cell 16
    have f16 := hx7.free 16
    simp only [List.getElem?_cons_zero, List.getElem?_cons_succ] at m16
    go_wp2_with fail
    go_end0
    have hc8 : Chg (fun k => k = x) w6 (w7.setCell ⟨x, 16, none⟩ ((YPc.adds).val x)) := hc7.setCell _ _ (fun _ => rfl)
    have z8 := hc8.size
    have ha8 := ha6.chg hc8 (fun q hq => by have : w.heap.size ≤ q := hq.1; omega)
    refine ⟨rfl, a, hx7.set' 16 _ rfl, ?_, ((Chg.refl _ w).drew.trans (Chg.ofBelow hk6)).trans hc8⟩
    exact ha8.more (fun k hk => ⟨hk.1, Nat.lt_of_lt_of_le hk.2 z8⟩) (fun k hk => ⟨hk.2, by have := hk.1; omega, by have := hk.1; omega⟩)

end Go.Proofs.YtapdpclgbpgklaaGreat

namespace Go.Proofs.YtapdpclgbpgklaaGreat
open Go.RowKit

/-- A scan's machine stands at x; it owns O. -/
structure ScAt (w : World) (x bm bs bl : Nat) (c : Cfg) (s : YS) (O : Nat → Prop) : Prop where
  ucy : U s.cy
  num : (0 ≤ s.i ∧ s.i < c.mks) ∧ (0 ≤ s.at_ ∧ s.at_ ≤ 1000) ∧ (0 ≤ s.p1 ∧ s.p1 ≤ 1000)
  slo : s.pc = .slot → s.at_ < s.p1
  own : ∀ k, O k → k < w.heap.size ∧ k ≠ bs ∧ k ≠ bl
  xin : O x
  ex : ∃ cp ap, Blk w x 147 (scL bm s.sv cp ap (s.pc.val x)) ∧
    (s.pc = .claims → s.cm.pc.fin = false ∧ ∃ cb, cp = .pointer (some ⟨cb, 0, none⟩) ∧ CmAt w cb bm s.cm ∧ O cb ∧ cb ≠ x) ∧
    (s.pc = .adds → s.am.pc.fin = false ∧ ∃ ab A, ap = .pointer (some ⟨ab, 0, none⟩) ∧ AmAt w ab bm bs bl c s.i s.am A ∧ (∀ k, A k → O k) ∧ ¬ A x)

theorem ScAt.chg {w w' : World} {S : Nat → Prop} {x bm bs bl : Nat} {c : Cfg} {s : YS} {O : Nat → Prop} (h : ScAt w x bm bs bl c s O) (k : Chg S w w') (hS : ∀ q, O q → ¬ S q) : ScAt w' x bm bs bl c s O := by
  obtain ⟨ucy, num, slo, own, xin, cp, ap, hx, h1, h2⟩ := h
  refine ⟨ucy, num, slo, fun q hq => ⟨Nat.lt_of_lt_of_le (own q hq).1 k.size, (own q hq).2⟩, xin, cp, ap, k.blk hx (hS _ xin), fun e => ?_, fun e => ?_⟩
  · obtain ⟨y1, cb, rfl, hc, o, n⟩ := h1 e
    exact ⟨y1, cb, rfl, hc.chg k (hS _ o), o, n⟩
  · obtain ⟨y1, ab, A, rfl, hp, o, n⟩ := h2 e
    exact ⟨y1, ab, A, rfl, hp.chg k (fun q hq => hS _ (o q hq)), o, n⟩

theorem ScAt.more {w : World} {x bm bs bl : Nat} {c : Cfg} {s : YS} {O O' : Nat → Prop} (h : ScAt w x bm bs bl c s O) (hO : ∀ k, O k → O' k) (hO' : ∀ k, O' k → k < w.heap.size ∧ k ≠ bs ∧ k ≠ bl) : ScAt w x bm bs bl c s O' := by
  obtain ⟨ucy, num, slo, own, xin, cp, ap, hx, h1, h2⟩ := h
  refine ⟨ucy, num, slo, hO', hO _ xin, cp, ap, hx, fun e => ?_, fun e => ?_⟩
  · obtain ⟨y1, cb, rfl, hc, o, n⟩ := h1 e
    exact ⟨y1, cb, rfl, hc, hO _ o, n⟩
  · obtain ⟨y1, ab, A, rfl, hp, o, n⟩ := h2 e
    exact ⟨y1, ab, A, rfl, hp, fun k hk => hO _ (o k hk), n⟩

/-- How many slots a node is told to have. -/
def headN (c : Cfg) (mem : List Int) (v : Int) : Int := min (mget mem (pNode c v 0)) (room c v)

/-- One step: memory, and the machine. -/
def scStep (c : Cfg) (mem : List Int) (s : YS) : List Int × YS :=
  match s.pc with
  | .done => (mem, { s with ev := Ev.zero })
  | .head => (mem, { s with pc := if tI (headN c mem s.v) s.fr c.ch < sI (headN c mem s.v) then .count else slotsPc (fI (headN c mem s.v) s.fr) (tI (headN c mem s.v) s.fr c.ch), p0 := fI (headN c mem s.v) s.fr, p1 := tI (headN c mem s.v) s.fr c.ch, at_ := fI (headN c mem s.v) s.fr, ev := Ev.zero })
  | .count => (mput mem 1 (addI (mget mem 1) 1), { s with pc := .adds, am := newAM c s.i (pairI s.v s.p1), ev := ⟨2, 0, s.v, s.p1, 0⟩ })
  | .adds => ((amStep c s.i mem s.am).1, { s with pc := if (amStep c s.i mem s.am).2.pc.fin then slotsPc s.at_ s.p1 else .adds, am := (amStep c s.i mem s.am).2, ev := Ev.zero })
  | .slot => (mem, if 1 ≤ mget mem (pSlot c s.v s.at_) ∧ mget mem (pSlot c s.v s.at_) ≤ nN c then { s with pc := .claims, at_ := s.at_ + 1, w := mget mem (pSlot c s.v s.at_), cm := newCM (mget mem (pSlot c s.v s.at_)) s.cy, ev := ⟨3, 0, s.v, s.at_, 0⟩ } else { s with pc := slotsPc (s.at_ + 1) s.p1, at_ := s.at_ + 1, ev := ⟨3, 0, s.v, s.at_, 0⟩ })
  | .claims => ((cmStep c mem s.cm).1, if (cmStep c mem s.cm).2.pc.fin then
        (if (cmStep c mem s.cm).2.won then { s with pc := .adds, cm := (cmStep c mem s.cm).2, am := newAM c s.i (pairI s.w 0), ev := ⟨1, 0, s.w, 0, 0⟩ }
         else { s with pc := slotsPc s.at_ s.p1, cm := (cmStep c mem s.cm).2, ev := Ev.zero })
      else { s with cm := (cmStep c mem s.cm).2, ev := Ev.zero })
  | .last => (mput mem 1 (addI (mget mem 1) 18446744073709551615), { s with pc := .done, ev := ⟨4, 0, s.v, s.fr, 0⟩ })

theorem slotsPc_slot {a p : Int} (h : slotsPc a p = .slot) : a < p := by
  unfold slotsPc at h
  split at h
  · assumption
  · cases h

theorem slotsPc_ne {a p : Int} : slotsPc a p ≠ .claims ∧ slotsPc a p ≠ .adds ∧ (slotsPc a p).fin = false := by
  unfold slotsPc; split <;> decide

theorem newAM_pc {c : Cfg} {i y : Int} (h : 0 ≤ i ∧ i < c.mks) : (newAM c i y).pc.fin = false := by
  unfold newAM; rw [if_pos h]; rfl

theorem slots_val (a p : Int) (x : Nat) : ∃ f : FuncId, (slotsPc a p).val x = .func (.func f) #[.pointer (some ⟨x, 0, none⟩)] #[] := by
  unfold slotsPc; split <;> exact ⟨_, rfl⟩

theorem ScAt.plain {w : World} {x bm bs bl : Nat} {c : Cfg} {s : YS} {O : Nat → Prop} {cp ap : Value} (ucy : U s.cy) (num : (0 ≤ s.i ∧ s.i < c.mks) ∧ (0 ≤ s.at_ ∧ s.at_ ≤ 1000) ∧ (0 ≤ s.p1 ∧ s.p1 ≤ 1000)) (slo : s.pc = .slot → s.at_ < s.p1) (own : ∀ k, O k → k < w.heap.size ∧ k ≠ bs ∧ k ≠ bl) (xin : O x) (hx : Blk w x 147 (scL bm s.sv cp ap (s.pc.val x))) (h1 : s.pc ≠ .claims) (h2 : s.pc ≠ .adds) : ScAt w x bm bs bl c s O :=
  ⟨ucy, num, slo, own, xin, cp, ap, hx, fun e => absurd e h1, fun e => absurd e h2⟩

set_option maxRecDepth 8000 in
set_option maxHeartbeats 1600000 in
theorem scLast_does {x bm bs bl B : Nat} {c : Cfg} {s : YS} {O : Nat → Prop} {mem : List Int} {n : Int} (w : World) (hg : Good c) (h : ScAt w x bm bs bl c s O) (hs : StoreAt w bs bl mem n) (hm : MapAt w B bm c) (hB : B ≤ w.heap.size) (hO : ∀ k, O k → B ≤ k) (hBs : B ≤ bs) (hBl : B ≤ bl) (hp : s.pc = .last) (hev : s.ev = Ev.zero) :
    Calls Tryz.prog 157 #[.pointer (some ⟨x, 0, none⟩), .pointer (some ⟨bs, 0, none⟩)] w fun r w' => r = .returned (.tuple #[]) ∧ ScAt w' x bm bs bl c (scStep c mem s).2 (Grow O w w') ∧ StoreAt w' bs bl (scStep c mem s).1 (cnt n) ∧ Chg (OwnB O bs bl) w w' := by
  obtain ⟨pc, i, v, fr, cy, p0, p1, at_, w0, cm, am, ev⟩ := s
  simp only at hp hev
  subst hp hev
  obtain ⟨ucy, num, slo, own, xin, cp, ap, hx, h1, h2⟩ := h
  simp only [YS.sv] at hx ucy num slo h1 h2
  simp only [scStep]
  have lx := own x xin
  obtain ⟨ls, ll⟩ := hs.lt
  clear h1 h2
  have g0 := hx.cell 0
  simp only [List.getElem?_cons_zero] at g0
  go_enter Tryz.func157, Tryz.ntmps157
  go_wp2_with fail
  refine (mWork_any bm _).mono ?_; rintro r w1 ⟨rfl, rfl⟩
  go_wp2_with fail
  refine (add_any 1 18446744073709551615 w hs).mono ?_; rintro r w2 ⟨rfl, hs2, hc2⟩
  have hx2 := hc2.blk hx (fun e => by rcases e with e | e; exact lx.2.1 e; exact lx.2.2 e)
  clear g0
  have k2 := hx2.cell 2
  have k3 := hx2.cell 3
  simp only [List.getElem?_cons_zero, List.getElem?_cons_succ] at k2 k3
  have k11 := hx2.cell 11
  have k12 := hx2.cell 12
  have k13 := hx2.cell 13
  have k14 := hx2.cell 14
  have k15 := hx2.cell 15
  have f11 := hx2.free 11
  have f12 := hx2.free 12
  have f13 := hx2.free 13
  have f14 := hx2.free 14
  have f15 := hx2.free 15
  simp only [List.getElem?_cons_zero, List.getElem?_cons_succ] at k11 k12 k13 k14 k15
  go_wp2_with fail
  go_region
  have hx3 : Blk ((((((w2.setCell ⟨x, 11, none⟩ (.int .i64 4)).setCell ⟨x, 12, none⟩ (.int .i64 0)).setCell ⟨x, 13, none⟩ (.int .i64 v)).setCell ⟨x, 14, none⟩ (.int .i64 fr)).setCell ⟨x, 15, none⟩ (.int .i64 0)).drew) x 147 (scL bm ⟨i, v, fr, cy, p0, p1, at_, w0, ⟨4, 0, v, fr, 0⟩⟩ cp ap ((YPc.last).val x)) := (((((hx2.set' 11 _ rfl).set' 12 _ rfl).set' 13 _ rfl).set' 14 _ rfl).set' 15 _ rfl).drew
  have hc3 : Chg (fun k => k = x) w2 ((((((w2.setCell ⟨x, 11, none⟩ (.int .i64 4)).setCell ⟨x, 12, none⟩ (.int .i64 0)).setCell ⟨x, 13, none⟩ (.int .i64 v)).setCell ⟨x, 14, none⟩ (.int .i64 fr)).setCell ⟨x, 15, none⟩ (.int .i64 0)).drew) := ((((((Chg.refl (fun k => k = x) w2).setCell _ _ (fun _ => rfl)).setCell _ _ (fun _ => rfl)).setCell _ _ (fun _ => rfl)).setCell _ _ (fun _ => rfl)).setCell _ _ (fun _ => rfl)).drew
  generalize (((((w2.setCell ⟨x, 11, none⟩ (.int .i64 4)).setCell ⟨x, 12, none⟩ (.int .i64 0)).setCell ⟨x, 13, none⟩ (.int .i64 v)).setCell ⟨x, 14, none⟩ (.int .i64 fr)).setCell ⟨x, 15, none⟩ (.int .i64 0)).drew = w3 at *
  clear k2 k3 k11 k12 k13 k14 k15 f11 f12 f13 f14 f15
  have k16 := hx3.cell 16
  have f16 := hx3.free 16
  simp only [List.getElem?_cons_zero, List.getElem?_cons_succ] at k16
  go_wp2_with fail
  go_end0
  have hx4 : Blk (w3.setCell ⟨x, 16, none⟩ .nilFunc) x 147 (scL bm ⟨i, v, fr, cy, p0, p1, at_, w0, ⟨4, 0, v, fr, 0⟩⟩ cp ap ((YPc.done).val x)) := hx3.set' 16 _ rfl
  have hc4 : Chg (fun k => k = x) w2 (w3.setCell ⟨x, 16, none⟩ .nilFunc) := hc3.setCell _ _ (fun _ => rfl)
  have hcw : Chg (OwnB O bs bl) w (w3.setCell ⟨x, 16, none⟩ .nilFunc) := (hc2.mono (fun _ _ e => .inr e)).trans (hc4.mono (fun k _ e => .inl (e ▸ xin)))
  exact ⟨rfl, ScAt.plain ucy num (fun e => by cases e) (grow_ok own hcw.size ls ll) (.inl xin) hx4 (fun e => by cases e) (fun e => by cases e), hs2.chg hc4 (Ne.symm lx.2.1) (Ne.symm lx.2.2), hcw⟩

set_option maxRecDepth 8000 in
set_option maxHeartbeats 1600000 in
theorem scCount_does {x bm bs bl B : Nat} {c : Cfg} {s : YS} {O : Nat → Prop} {mem : List Int} {n : Int} (w : World) (hg : Good c) (h : ScAt w x bm bs bl c s O) (hs : StoreAt w bs bl mem n) (hm : MapAt w B bm c) (hB : B ≤ w.heap.size) (hO : ∀ k, O k → B ≤ k) (hBs : B ≤ bs) (hBl : B ≤ bl) (hp : s.pc = .count) (hev : s.ev = Ev.zero) :
    Calls Tryz.prog 134 #[.pointer (some ⟨x, 0, none⟩), .pointer (some ⟨bs, 0, none⟩)] w fun r w' => r = .returned (.tuple #[]) ∧ ScAt w' x bm bs bl c (scStep c mem s).2 (Grow O w w') ∧ StoreAt w' bs bl (scStep c mem s).1 (cnt n) ∧ Chg (OwnB O bs bl) w w' := by
  obtain ⟨pc, i, v, fr, cy, p0, p1, at_, w0, cm, am, ev⟩ := s
  simp only at hp hev
  subst hp hev
  obtain ⟨ucy, num, slo, own, xin, cp, ap, hx, h1, h2⟩ := h
  simp only [YS.sv] at hx ucy num slo h1 h2
  simp only [scStep]
  have lx := own x xin
  obtain ⟨ls, ll⟩ := hs.lt
  clear h1 h2
  have g0 := hx.cell 0
  simp only [List.getElem?_cons_zero] at g0
  go_enter Tryz.func134, Tryz.ntmps134
  go_wp2_with fail
  refine (mWork_any bm _).mono ?_; rintro r w1 ⟨rfl, rfl⟩
  go_wp2_with fail
  refine (add_any 1 1 w hs).mono ?_; rintro r w2 ⟨rfl, hs2, hc2⟩
  have hx2 := hc2.blk hx (fun e => by rcases e with e | e; exact lx.2.1 e; exact lx.2.2 e)
  clear g0
  have k2 := hx2.cell 2
  have k6 := hx2.cell 6
  simp only [List.getElem?_cons_zero, List.getElem?_cons_succ] at k2 k6
  have k11 := hx2.cell 11
  have k12 := hx2.cell 12
  have k13 := hx2.cell 13
  have k14 := hx2.cell 14
  have k15 := hx2.cell 15
  have f11 := hx2.free 11
  have f12 := hx2.free 12
  have f13 := hx2.free 13
  have f14 := hx2.free 14
  have f15 := hx2.free 15
  simp only [List.getElem?_cons_zero, List.getElem?_cons_succ] at k11 k12 k13 k14 k15
  go_wp2_with fail
  go_region
  have hx3 : Blk ((((((w2.setCell ⟨x, 11, none⟩ (.int .i64 2)).setCell ⟨x, 12, none⟩ (.int .i64 0)).setCell ⟨x, 13, none⟩ (.int .i64 v)).setCell ⟨x, 14, none⟩ (.int .i64 p1)).setCell ⟨x, 15, none⟩ (.int .i64 0)).drew) x 147 (scL bm ⟨i, v, fr, cy, p0, p1, at_, w0, ⟨2, 0, v, p1, 0⟩⟩ cp ap ((YPc.count).val x)) := (((((hx2.set' 11 _ rfl).set' 12 _ rfl).set' 13 _ rfl).set' 14 _ rfl).set' 15 _ rfl).drew
  have hc3 : Chg (fun k => k = x) w2 ((((((w2.setCell ⟨x, 11, none⟩ (.int .i64 2)).setCell ⟨x, 12, none⟩ (.int .i64 0)).setCell ⟨x, 13, none⟩ (.int .i64 v)).setCell ⟨x, 14, none⟩ (.int .i64 p1)).setCell ⟨x, 15, none⟩ (.int .i64 0)).drew) := ((((((Chg.refl (fun k => k = x) w2).setCell _ _ (fun _ => rfl)).setCell _ _ (fun _ => rfl)).setCell _ _ (fun _ => rfl)).setCell _ _ (fun _ => rfl)).setCell _ _ (fun _ => rfl)).drew
  generalize (((((w2.setCell ⟨x, 11, none⟩ (.int .i64 2)).setCell ⟨x, 12, none⟩ (.int .i64 0)).setCell ⟨x, 13, none⟩ (.int .i64 v)).setCell ⟨x, 14, none⟩ (.int .i64 p1)).setCell ⟨x, 15, none⟩ (.int .i64 0)).drew = w3 at *
  clear k2 k6 k11 k12 k13 k14 k15 f11 f12 f13 f14 f15
  have k2 := hx3.cell 2
  have k6 := hx3.cell 6
  simp only [List.getElem?_cons_zero, List.getElem?_cons_succ] at k2 k6
  have hcw3 : Chg (OwnB O bs bl) w w3 := (hc2.mono (fun _ _ e => .inr e)).trans (hc3.mono (fun k _ e => .inl (e ▸ xin)))
  have hs3 := hs2.chg hc3 (Ne.symm lx.2.1) (Ne.symm lx.2.2)
  have hm3 := hm.below (hcw3.ownBelow hB hO hBs hBl) (Nat.le_refl _)
  have z3 := hcw3.size
  have G := scGive_any v p1 w3.drew hg hx3.drew hm3.drew (Nat.le_trans hB z3) hs3.lt.1 hs3.lt.2
  simp only at G
  go_wp2_with fail
  go_region_held3 (fun w' => w'.cell? ⟨x, 2, none⟩ = some (.int .i64 v) ∧ w'.cell? ⟨x, 6, none⟩ = some (.int .i64 p1))
    (first | exact ⟨k2, k6⟩ | exact ⟨j2, j6⟩)
    (first
     | (go_at_call 159; refine G.mono ?_; rintro r w4 ⟨rfl, a, hx4, ha4, hc4⟩
        have j2 := hx4.cell 2
        have j6 := hx4.cell 6
        simp only [List.getElem?_cons_zero, List.getElem?_cons_succ] at j2 j6))
  all_goals
    go_wp2_with fail
    go_end0
    have hc5 : Chg (fun k => k = x) w3 w4 := (Chg.refl _ w3).drew.trans hc4
    have hcw : Chg (OwnB O bs bl) w w4 := hcw3.trans (hc5.mono (fun k _ e => .inl (e ▸ xin)))
    have z4 := hc5.size
    refine ⟨rfl, ⟨ucy, num, fun e => (by cases e), grow_ok own hcw.size ls ll, .inl xin, cp, _, hx4, fun e => (by cases e), fun _ => ⟨newAM_pc num.1, a, _, rfl, ha4, fun k hk => .inr ⟨Nat.le_trans z3 hk.1, hk.2⟩, fun e => by have : w3.heap.size ≤ x := e.1; omega⟩⟩, hs3.chg hc5 (Ne.symm lx.2.1) (Ne.symm lx.2.2), hcw⟩

set_option maxRecDepth 8000 in
set_option maxHeartbeats 1600000 in
theorem scAdds_does {x bm bs bl B : Nat} {c : Cfg} {s : YS} {O : Nat → Prop} {mem : List Int} {n : Int} (w : World) (hg : Good c) (h : ScAt w x bm bs bl c s O) (hs : StoreAt w bs bl mem n) (hm : MapAt w B bm c) (hB : B ≤ w.heap.size) (hO : ∀ k, O k → B ≤ k) (hBs : B ≤ bs) (hBl : B ≤ bl) (hp : s.pc = .adds) (hev : s.ev = Ev.zero) :
    Calls Tryz.prog 179 #[.pointer (some ⟨x, 0, none⟩), .pointer (some ⟨bs, 0, none⟩)] w fun r w' => r = .returned (.tuple #[]) ∧ ScAt w' x bm bs bl c (scStep c mem s).2 (Grow O w w') ∧ StoreAt w' bs bl (scStep c mem s).1 (cnt n) ∧ Chg (OwnB O bs bl) w w' := by
  obtain ⟨pc, i, v, fr, cy, p0, p1, at_, w0, cm, am, ev⟩ := s
  simp only at hp hev
  subst hp hev
  obtain ⟨ucy, num, slo, own, xin, cp, ap, hx, h1, h2⟩ := h
  simp only [YS.sv] at hx ucy num slo h1 h2
  simp only [scStep]
  have lx := own x xin
  obtain ⟨ls, ll⟩ := hs.lt
  obtain ⟨haf, ab, A, rfl, ha, hAO, hAx⟩ := h2 (by trivial)
  clear h1 h2
  have D := astep_any w hg ha hs hm hB (fun k hk => hO k (hAO k hk)) hBs hBl
  rw [haf] at D
  have nsx : ¬ OwnB A bs bl x := by
    rintro (e | e | e)
    · exact hAx e
    · exact lx.2.1 e
    · exact lx.2.2 e
  generalize amStep c i mem am = rr at *
  obtain ⟨mem2, am2⟩ := rr
  simp only at D ⊢
  have g10 := hx.cell 10
  simp only [List.getElem?_cons_zero, List.getElem?_cons_succ] at g10
  cases hf : am2.pc.fin
  · simp only [Bool.false_eq_true, ↓reduceIte]
    rw [hf] at D
    go_enter Tryz.func179, Tryz.ntmps179
    go_wp2_with fail
    refine D.mono ?_; rintro r w2 ⟨rfl, ha2, hs2, hc2⟩
    go_wp2_with fail
    go_end0
    have hcw : Chg (OwnB O bs bl) w w2 := hc2.mono (fun k _ e => e.elim (fun e => .inl (hAO k e)) .inr)
    exact ⟨rfl, ⟨ucy, num, fun e => (by cases e), grow_ok own hcw.size ls ll, .inl xin, cp, _, hc2.blk hx nsx, fun e => (by cases e), fun _ => ⟨hf, ab, _, rfl, ha2, fun k hk => hk.elim (fun e => .inl (hAO k e)) .inr, fun e => e.elim hAx (fun e => by omega)⟩⟩, hs2, hcw⟩
  · simp only [↓reduceIte]
    rw [hf] at D
    go_enter Tryz.func179, Tryz.ntmps179
    go_wp2_with fail
    refine D.mono ?_; rintro r w2 ⟨rfl, ha2, hs2, hc2⟩
    have hx2 := hc2.blk hx nsx
    have hcw2 : Chg (OwnB O bs bl) w w2 := hc2.mono (fun k _ e => e.elim (fun e => .inl (hAO k e)) .inr)
    go_wp2_with fail
    refine (scSlots_any w2 hx2).mono ?_; rintro r w3 ⟨rfl, n3, rfl⟩
    obtain ⟨f, hv⟩ := slots_val at_ p1 x
    have HV : Hid _ := hv
    rw [hv]
    clear hv
    have hx3 := hx2.chgN n3
    have hc3 : Chg (fun k => k = x) w2 (w2.drewN n3) := (Chg.refl _ w2).drewN n3
    generalize w2.drewN n3 = w3 at *
    have k16 := hx3.cell 16
    have f16 := hx3.free 16
    simp only [List.getElem?_cons_zero, List.getElem?_cons_succ] at k16
    go_wp2_with fail
    go_end0
    have hx4 : Blk (w3.setCell ⟨x, 16, none⟩ (.func (.func f) #[.pointer (some ⟨x, 0, none⟩)] #[])) x 147 (scL bm ⟨i, v, fr, cy, p0, p1, at_, w0, Ev.zero⟩ cp (.pointer (some ⟨ab, 0, none⟩)) ((slotsPc at_ p1).val x)) := by rw [HV.out]; exact hx3.set' 16 _ rfl
    have hc4 : Chg (fun k => k = x) w2 (w3.setCell ⟨x, 16, none⟩ (.func (.func f) #[.pointer (some ⟨x, 0, none⟩)] #[])) := hc3.setCell _ _ (fun _ => rfl)
    have hcw : Chg (OwnB O bs bl) w (w3.setCell ⟨x, 16, none⟩ (.func (.func f) #[.pointer (some ⟨x, 0, none⟩)] #[])) := hcw2.trans (hc4.mono (fun k _ e => .inl (e ▸ xin)))
    exact ⟨rfl, ScAt.plain ucy num slotsPc_slot (grow_ok own hcw.size ls ll) (.inl xin) hx4 slotsPc_ne.1 slotsPc_ne.2.1, hs2.chg hc4 (Ne.symm lx.2.1) (Ne.symm lx.2.2), hcw⟩

end Go.Proofs.YtapdpclgbpgklaaGreat
