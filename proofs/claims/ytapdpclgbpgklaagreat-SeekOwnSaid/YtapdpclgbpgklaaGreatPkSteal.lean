/- A deque's machine that steals: walked. -/
import Derived.Test.YtapdpclgbpgklaaGreatPkG
import Derived.Test.YtapdpclgbpgklaaGreatPkH
namespace Go.Proofs.YtapdpclgbpgklaaGreat
open Go.RowKit

/-- What a machine that steals does next. -/
inductive TPc where
  | done | stealTop | stealBottom | stealEntry | stealSwap
deriving DecidableEq

/-- What it knows. -/
structure ST where
  pc : TPc
  b : Int
  t : Int
  wd : Int
  out : Int

def TPc.val (b q1 q2 : Nat) : TPc → Value
  | .done => .nilFunc
  | .stealTop => .func (.func 169) #[] #[.pointer (some ⟨q1, 0, none⟩), .pointer (some ⟨q2, 0, none⟩)]
  | .stealBottom => .func (.func 206) #[.pointer (some ⟨b, 0, none⟩)] #[]
  | .stealEntry => .func (.func 208) #[.pointer (some ⟨b, 0, none⟩)] #[]
  | .stealSwap => .func (.func 209) #[.pointer (some ⟨b, 0, none⟩)] #[]

def TPc.fin : TPc → Bool
  | .done => true
  | _ => false

/-- A machine that steals stands at block b; what it begins with at q1, q2. -/
structure StAt (w : World) (b q1 q2 : Nat) (e : DEnds) (d : ST) : Prop where
  ap : b ≠ q1 ∧ b ≠ q2
  ok : U d.b ∧ U d.t ∧ U d.wd
  eok : e.ok
  blk : Blk w b 221 (dqL e (d.pc.val b q1 q2) d.b d.t d.wd d.out false)
  box : d.pc = .stealTop → Blk w q1 206 [.func (.func 200) #[] #[]] ∧ Blk w q2 164 [.pointer (some ⟨b, 0, none⟩)]

theorem StAt.chg {w w' : World} {S : Nat → Prop} {b q1 q2 : Nat} {e : DEnds} {d : ST} (h : StAt w b q1 q2 e d) (k : Chg S w w') (h1 : ¬ S b) (h2 : ¬ S q1) (h3 : ¬ S q2) : StAt w' b q1 q2 e d :=
  ⟨h.ap, h.ok, h.eok, k.blk h.blk h1, fun e => ⟨k.blk (h.box e).1 h2, k.blk (h.box e).2 h3⟩⟩

/-- One step of a machine that steals. -/
def stStep (e : DEnds) (mem : List Int) (d : ST) : List Int × ST :=
  match d.pc with
  | .done => (mem, d)
  | .stealTop => (mem, { d with pc := .stealBottom, t := mget mem e.tp })
  | .stealBottom => (mem, if aheadI (mget mem e.bt) d.t > 0 then { d with pc := .stealEntry, b := mget mem e.bt } else { d with pc := .done, b := mget mem e.bt, out := 3 })
  | .stealEntry => (mem, { d with pc := .stealSwap, wd := mget mem (entI e d.t) })
  | .stealSwap => if mhit mem e.tp d.t then (mput mem e.tp ((d.t + 1) % 18446744073709551616), { d with pc := .done, out := 1 }) else (mem, { d with pc := .done, wd := 0, out := 4 })

set_option maxRecDepth 8000 in
theorem stTop_does {b q1 q2 bs bl : Nat} {e : DEnds} {d : ST} {mem : List Int} {n : Int} (w : World) (h : StAt w b q1 q2 e d) (hs : StoreAt w bs bl mem n) (h1 : b ≠ bs) (h2 : b ≠ bl) (hp : d.pc = .stealTop) :
    Calls Tryz.prog 200 #[.pointer (some ⟨b, 0, none⟩), .pointer (some ⟨bs, 0, none⟩)] w fun r w' => r = .returned (.tuple #[]) ∧ StAt w' b q1 q2 e (stStep e mem d).2 ∧ StoreAt w' bs bl (stStep e mem d).1 (cnt n) ∧ Chg (DqB b bs bl) w w' := by
  obtain ⟨ap, ⟨u1, u2, u3⟩, eok, hb, _⟩ := h
  have hU := mget_all hs.all e.tp
  simp only [stStep, hp] at hb ⊢
  have g0 := hb.cell 0
  simp only [List.getElem?_cons_zero] at g0
  go_enter Tryz.func200, Tryz.ntmps200
  go_wp2_with fail
  refine (load_any e.tp w hs).mono ?_; rintro r w2 ⟨rfl, hs2, hc2⟩
  have hb2 := hc2.blk hb h1
  have g6 := hb2.cell 6
  have f6 := hb2.free 6
  have g4 := hb2.cell 4
  have f4 := hb2.free 4
  simp only [List.getElem?_cons_zero, List.getElem?_cons_succ] at g6 g4
  go_wp2_with fail
  go_end0
  have hcb : Chg (fun k => k = b) w2 ((w2.setCell ⟨b, 6, none⟩ (.int .u64 (mget mem e.tp))).setCell ⟨b, 4, none⟩ ((TPc.stealBottom).val b q1 q2)) := ((Chg.refl (fun k => k = b) w2).setCell ⟨b, 6, none⟩ _ (fun _ => rfl)).setCell ⟨b, 4, none⟩ _ (fun _ => rfl)
  exact ⟨rfl, ⟨ap, ⟨u1, hU, u3⟩, eok, (hb2.set' 6 _ rfl).set' 4 _ rfl, fun e => by cases e⟩, hs2.chg hcb (Ne.symm h1) (Ne.symm h2), (hc2.mono (fun _ _ e => .inr (.inl e))).trans (hcb.mono (fun _ _ e => .inl e))⟩


set_option maxRecDepth 8000 in
theorem stBegun_does {b q1 q2 bs bl : Nat} {e : DEnds} {d : ST} {mem : List Int} {n : Int} (w : World) (h : StAt w b q1 q2 e d) (hs : StoreAt w bs bl mem n) (h1 : b ≠ bs) (h2 : b ≠ bl) (hp : d.pc = .stealTop) :
    Calls Tryz.prog 169 #[.pointer (some ⟨bs, 0, none⟩), .pointer (some ⟨q1, 0, none⟩), .pointer (some ⟨q2, 0, none⟩)] w fun r w' => r = .returned (.tuple #[]) ∧ StAt w' b q1 q2 e (stStep e mem d).2 ∧ StoreAt w' bs bl (stStep e mem d).1 (cnt n) ∧ Chg (DqB b bs bl) w w' := by
  obtain ⟨k1, k2⟩ := h.box hp
  have D := stTop_does w h hs h1 h2 hp
  generalize stStep e mem d = rr at *
  have g1 := k1.cell 0
  have g2 := k2.cell 0
  simp only [List.getElem?_cons_zero] at g1 g2
  go_enter Tryz.func169, Tryz.ntmps169
  go_wp2_with fail
  refine D.mono ?_; rintro r w2 ⟨rfl, hd⟩
  go_wp2_with fail
  go_end0
  exact ⟨rfl, hd⟩

set_option maxRecDepth 8000 in
theorem stBottom_does {b q1 q2 bs bl : Nat} {e : DEnds} {d : ST} {mem : List Int} {n : Int} (w : World) (h : StAt w b q1 q2 e d) (hs : StoreAt w bs bl mem n) (h1 : b ≠ bs) (h2 : b ≠ bl) (hp : d.pc = .stealBottom) :
    Calls Tryz.prog 206 #[.pointer (some ⟨b, 0, none⟩), .pointer (some ⟨bs, 0, none⟩)] w fun r w' => r = .returned (.tuple #[]) ∧ StAt w' b q1 q2 e (stStep e mem d).2 ∧ StoreAt w' bs bl (stStep e mem d).1 (cnt n) ∧ Chg (DqB b bs bl) w w' := by
  obtain ⟨ap, ⟨u1, ⟨u2, u2'⟩, u3⟩, eok, hb, _⟩ := h
  have hU := mget_all hs.all e.bt
  obtain ⟨hU0, hU1⟩ := hU
  simp only [stStep, hp] at hb ⊢
  generalize ht : mget mem e.bt = tt at *
  generalize ha : aheadI tt d.t = aa at *
  have HA : Hid (aheadI tt d.t = aa) := ha
  have HT : Hid (mget mem e.bt = tt) := ht
  clear ha ht
  have g1 := hb.cell 1
  simp only [List.getElem?_cons_zero, List.getElem?_cons_succ] at g1
  by_cases haz : aa > 0
  · have haz' : 0 < aa := haz
    rw [if_pos haz]
    go_enter Tryz.func206, Tryz.ntmps206
    go_wp2_with fail
    refine (load_any e.bt w hs).mono ?_; rintro r w2 ⟨rfl, hs2, hc2⟩
    rw [HT.out]
    have hb2 := hc2.blk hb h1
    have f5 := hb2.free 5
    have g5 := hb2.cell 5
    have f4 := hb2.free 4
    have g4 := hb2.cell 4
    simp only [List.getElem?_cons_zero, List.getElem?_cons_succ] at g5 g4
    go_wp2_with fail
    have hb3 : Blk ((w2.setCell ⟨b, 5, none⟩ (.int .u64 tt)).setCell ⟨b, 4, none⟩ ((TPc.stealEntry).val b q1 q2)) b 221 (dqL e ((TPc.stealEntry).val b q1 q2) tt d.t d.wd d.out false) := (hb2.set' 5 _ rfl).set' 4 _ rfl
    have hcb : Chg (fun k => k = b) w2 ((w2.setCell ⟨b, 5, none⟩ (.int .u64 tt)).setCell ⟨b, 4, none⟩ ((TPc.stealEntry).val b q1 q2)) := ((Chg.refl (fun k => k = b) w2).setCell ⟨b, 5, none⟩ _ (fun _ => rfl)).setCell ⟨b, 4, none⟩ _ (fun _ => rfl)
    simp only [TPc.val] at hb3 hcb
    generalize ((w2.setCell ⟨b, 5, none⟩ (.int .u64 tt)).setCell ⟨b, 4, none⟩ (.func (.func 208) #[.pointer (some ⟨b, 0, none⟩)] #[])) = w3 at *
    clear f5 g5 f4 g4
    have q5 := hb3.cell 5
    have q6 := hb3.cell 6
    simp only [List.getElem?_cons_zero, List.getElem?_cons_succ] at q5 q6
    go_region_held3 (fun w' => w'.cell? ⟨b, 5, none⟩ = some (.int .u64 tt) ∧ w'.cell? ⟨b, 6, none⟩ = some (.int .u64 d.t)) (first | exact ⟨q5, q6⟩)
      (first | (go_at_call 192; refine (ahead_any tt d.t _ hU0 hU1 u2 u2').mono ?_; rintro r w4 ⟨rfl, rfl⟩; rw [HA.out]))
    all_goals
      go_wp2_with fail
      go_end0
      have hc7 := hcb.drew
      exact ⟨rfl, ⟨ap, ⟨⟨hU0, hU1⟩, ⟨u2, u2'⟩, u3⟩, eok, hb3.drew, fun e => by cases e⟩, hs2.chg hc7 (Ne.symm h1) (Ne.symm h2), (hc2.mono (fun _ _ e => .inr (.inl e))).trans (hc7.mono (fun _ _ e => .inl e))⟩
  · have haz' : aa ≤ 0 := by omega
    rw [if_neg haz]
    go_enter Tryz.func206, Tryz.ntmps206
    go_wp2_with fail
    refine (load_any e.bt w hs).mono ?_; rintro r w2 ⟨rfl, hs2, hc2⟩
    rw [HT.out]
    have hb2 := hc2.blk hb h1
    have f5 := hb2.free 5
    have g5 := hb2.cell 5
    have f4 := hb2.free 4
    have g4 := hb2.cell 4
    simp only [List.getElem?_cons_zero, List.getElem?_cons_succ] at g5 g4
    go_wp2_with fail
    have hb3 : Blk ((w2.setCell ⟨b, 5, none⟩ (.int .u64 tt)).setCell ⟨b, 4, none⟩ ((TPc.stealEntry).val b q1 q2)) b 221 (dqL e ((TPc.stealEntry).val b q1 q2) tt d.t d.wd d.out false) := (hb2.set' 5 _ rfl).set' 4 _ rfl
    have hcb : Chg (fun k => k = b) w2 ((w2.setCell ⟨b, 5, none⟩ (.int .u64 tt)).setCell ⟨b, 4, none⟩ ((TPc.stealEntry).val b q1 q2)) := ((Chg.refl (fun k => k = b) w2).setCell ⟨b, 5, none⟩ _ (fun _ => rfl)).setCell ⟨b, 4, none⟩ _ (fun _ => rfl)
    simp only [TPc.val] at hb3 hcb
    generalize ((w2.setCell ⟨b, 5, none⟩ (.int .u64 tt)).setCell ⟨b, 4, none⟩ (.func (.func 208) #[.pointer (some ⟨b, 0, none⟩)] #[])) = w3 at *
    clear f5 g5 f4 g4
    have q5 := hb3.cell 5
    have q6 := hb3.cell 6
    simp only [List.getElem?_cons_zero, List.getElem?_cons_succ] at q5 q6
    go_region_held3 (fun w' => w'.cell? ⟨b, 5, none⟩ = some (.int .u64 tt) ∧ w'.cell? ⟨b, 6, none⟩ = some (.int .u64 d.t)) (first | exact ⟨q5, q6⟩)
      (first | (go_at_call 192; refine (ahead_any tt d.t _ hU0 hU1 u2 u2').mono ?_; rintro r w4 ⟨rfl, rfl⟩; rw [HA.out]))
    all_goals
      go_wp2_with fail
      refine (dend_any 3 _ hb3.drew).mono ?_; rintro r w6 ⟨rfl, hb6, hc6⟩
      go_wp2_with fail
      go_end0
      have hc7 := hcb.drew.trans hc6
      exact ⟨rfl, ⟨ap, ⟨⟨hU0, hU1⟩, ⟨u2, u2'⟩, u3⟩, eok, hb6, fun e => by cases e⟩, hs2.chg hc7 (Ne.symm h1) (Ne.symm h2), (hc2.mono (fun _ _ e => .inr (.inl e))).trans (hc7.mono (fun _ _ e => .inl e))⟩

set_option maxRecDepth 8000 in
theorem stEntry_does {b q1 q2 bs bl : Nat} {e : DEnds} {d : ST} {mem : List Int} {n : Int} (w : World) (h : StAt w b q1 q2 e d) (hs : StoreAt w bs bl mem n) (h1 : b ≠ bs) (h2 : b ≠ bl) (hp : d.pc = .stealEntry) :
    Calls Tryz.prog 208 #[.pointer (some ⟨b, 0, none⟩), .pointer (some ⟨bs, 0, none⟩)] w fun r w' => r = .returned (.tuple #[]) ∧ StAt w' b q1 q2 e (stStep e mem d).2 ∧ StoreAt w' bs bl (stStep e mem d).1 (cnt n) ∧ Chg (DqB b bs bl) w w' := by
  obtain ⟨ap, ⟨u1, ⟨u2, u2'⟩, u3⟩, eok, hb, _⟩ := h
  have hV := mget_all hs.all (entI e d.t)
  simp only [stStep, hp] at hb ⊢
  generalize ht : mget mem (entI e d.t) = vv at *
  have HT : Hid (mget mem (entI e d.t) = vv) := ht
  clear ht
  have g0 := hb.cell 0
  have g1 := hb.cell 1
  have g2 := hb.cell 2
  have g3 := hb.cell 3
  have g6 := hb.cell 6
  simp only [List.getElem?_cons_zero, List.getElem?_cons_succ] at g0 g1 g2 g3 g6
  go_enter Tryz.func208, Tryz.ntmps208
  go_wp2_with fail
  go_region_held3 (fun w' => w'.cell? ⟨b, 0, none⟩ = some (.int .i64 e.tp) ∧ w'.cell? ⟨b, 1, none⟩ = some (.int .i64 e.bt) ∧ w'.cell? ⟨b, 2, none⟩ = some (.int .i64 e.en) ∧ w'.cell? ⟨b, 3, none⟩ = some (.int .i64 e.rm) ∧ w'.cell? ⟨b, 6, none⟩ = some (.int .u64 d.t))
    (first | exact ⟨g0, g1, g2, g3, g6⟩ | exact ⟨k0, k1, k2, k3, k6⟩ | exact ⟨j0, j1, j2, j3, j6⟩ | exact ⟨keepSet j0 (by simp), keepSet j1 (by simp), keepSet j2 (by simp), keepSet j3 (by simp), keepSet j6 (by simp)⟩ | exact ⟨keepCell j0 (by simp), keepCell j1 (by simp), keepCell j2 (by simp), keepCell j3 (by simp), keepCell j6 (by simp)⟩)
    (first
     | (go_at_call 201; refine (entry_any e d.t _ eok ⟨u2, u2'⟩).mono ?_; rintro r w2 ⟨rfl, hk2⟩
        have hb2 := hk2.blk hb.drew
        have k0 := hb2.cell 0
        have k1 := hb2.cell 1
        have k2 := hb2.cell 2
        have k3 := hb2.cell 3
        have k6 := hb2.cell 6
        simp only [List.getElem?_cons_zero, List.getElem?_cons_succ] at k0 k1 k2 k3 k6)
     | (go_at_call 41; refine (load_any (entI e d.t) _ (hs.drew.kept hk2)).mono ?_; rintro r w3 ⟨rfl, hs3, hc3⟩
        rw [HT.out]
        have hb3 := hc3.blk hb2 h1
        have j0 := hb3.cell 0
        have j1 := hb3.cell 1
        have j2 := hb3.cell 2
        have j3 := hb3.cell 3
        have j6 := hb3.cell 6
        have j7 := hb3.cell 7
        have fj7 := hb3.free 7
        have j4 := hb3.cell 4
        have fj4 := hb3.free 4
        simp only [List.getElem?_cons_zero, List.getElem?_cons_succ] at j0 j1 j2 j3 j6 j7 j4))
  have hc5 : Chg (DqB b bs bl) w w3 := ((Chg.refl (DqB b bs bl) w).drew).trans ((Chg.ofBelow (S := DqB b bs bl) hk2).trans (hc3.mono (fun _ _ e => .inr (.inl e))))
  go_wp2_with fail
  go_end0
  have hcb : Chg (fun k => k = b) w3 ((w3.setCell ⟨b, 7, none⟩ (.int .u64 vv)).setCell ⟨b, 4, none⟩ ((TPc.stealSwap).val b q1 q2)) := ((Chg.refl (fun k => k = b) w3).setCell ⟨b, 7, none⟩ _ (fun _ => rfl)).setCell ⟨b, 4, none⟩ _ (fun _ => rfl)
  exact ⟨rfl, ⟨ap, ⟨u1, ⟨u2, u2'⟩, hV⟩, eok, (hb3.set' 7 _ rfl).set' 4 _ rfl, fun e => by cases e⟩, hs3.chg hcb (Ne.symm h1) (Ne.symm h2), hc5.trans (hcb.mono (fun _ _ e => .inl e))⟩

set_option maxRecDepth 8000 in
theorem stSwap_does {b q1 q2 bs bl : Nat} {e : DEnds} {d : ST} {mem : List Int} {n : Int} (w : World) (h : StAt w b q1 q2 e d) (hs : StoreAt w bs bl mem n) (h1 : b ≠ bs) (h2 : b ≠ bl) (hp : d.pc = .stealSwap) :
    Calls Tryz.prog 209 #[.pointer (some ⟨b, 0, none⟩), .pointer (some ⟨bs, 0, none⟩)] w fun r w' => r = .returned (.tuple #[]) ∧ StAt w' b q1 q2 e (stStep e mem d).2 ∧ StoreAt w' bs bl (stStep e mem d).1 (cnt n) ∧ Chg (DqB b bs bl) w w' := by
  obtain ⟨ap, ⟨u1, u2, u3⟩, eok, hb, _⟩ := h
  simp only [stStep, hp] at hb ⊢
  have hx : U ((d.t + 1) % 18446744073709551616) := by unfold U; omega
  have x1 : IntKind.u64.wrap (d.t + 1) = (d.t + 1) % 18446744073709551616 := IntKind.wrap_u64 _
  generalize (d.t + 1) % 18446744073709551616 = v at *
  generalize hh : mhit mem e.tp d.t = hit at *
  have HH : Hid (mhit mem e.tp d.t = hit) := hh
  clear hh
  cases hit
  · simp only [Bool.false_eq_true, ↓reduceIte]
    have g0 := hb.cell 0
    have g6 := hb.cell 6
    simp only [List.getElem?_cons_zero, List.getElem?_cons_succ] at g0 g6
    go_enter Tryz.func209, Tryz.ntmps209
    go_wp2_with fail
    go_region_held3 (fun w' => w'.cell? ⟨b, 0, none⟩ = some (.int .i64 e.tp) ∧ w'.cell? ⟨b, 6, none⟩ = some (.int .u64 d.t))
      (first | exact ⟨g0, g6⟩ | exact ⟨k0, k6⟩)
      (first
       | (go_at_call 194; refine (swap_any e.tp d.t v _ hs.drew hx).mono ?_; rintro r w3 ⟨rfl, hs3, hc3⟩
          rw [HH.out] at hs3 ⊢
          simp only [Bool.false_eq_true, ↓reduceIte] at hs3
          have hb3 := hc3.blk hb.drew (show ¬ MemB bs bl b from fun e => e.elim h1 h2)
          have k0 := hb3.cell 0
          have k6 := hb3.cell 6
          have k7 := hb3.cell 7
          have fk7 := hb3.free 7
          simp only [List.getElem?_cons_zero, List.getElem?_cons_succ] at k0 k6 k7))
    all_goals
      have hc5 : Chg (DqB b bs bl) w w3 := ((Chg.refl (DqB b bs bl) w).drew).trans (hc3.mono (fun _ _ e => .inr e))
      go_wp2_with fail
      have hb4 := hb3.set' 7 (.int .u64 0) (l' := dqL e ((TPc.stealSwap).val b q1 q2) d.b d.t 0 d.out false) rfl
      have hcb : Chg (fun k => k = b) w3 (w3.setCell ⟨b, 7, none⟩ (.int .u64 0)) := (Chg.refl (fun k => k = b) w3).setCell ⟨b, 7, none⟩ _ (fun _ => rfl)
      refine (dend_any 4 _ hb4).mono ?_; rintro r w5 ⟨rfl, hb5, hc6⟩
      go_wp2_with fail
      go_end0
      have hc7 := hcb.trans hc6
      exact ⟨rfl, ⟨ap, ⟨u1, u2, by show U 0; unfold U; omega⟩, eok, hb5, fun e => by cases e⟩, hs3.chg hc7 (Ne.symm h1) (Ne.symm h2), hc5.trans (hc7.mono (fun _ _ e => .inl e))⟩
  · simp only [↓reduceIte]
    have g0 := hb.cell 0
    have g6 := hb.cell 6
    simp only [List.getElem?_cons_zero, List.getElem?_cons_succ] at g0 g6
    go_enter Tryz.func209, Tryz.ntmps209
    go_wp2_with fail
    go_region_held3 (fun w' => w'.cell? ⟨b, 0, none⟩ = some (.int .i64 e.tp) ∧ w'.cell? ⟨b, 6, none⟩ = some (.int .u64 d.t))
      (first | exact ⟨g0, g6⟩ | exact ⟨k0, k6⟩)
      (first
       | (go_at_call 194; refine (swap_any e.tp d.t v _ hs.drew hx).mono ?_; rintro r w3 ⟨rfl, hs3, hc3⟩
          rw [HH.out] at hs3 ⊢
          simp only [↓reduceIte] at hs3
          have hb3 := hc3.blk hb.drew (show ¬ MemB bs bl b from fun e => e.elim h1 h2)
          have k0 := hb3.cell 0
          have k6 := hb3.cell 6
          have k7 := hb3.cell 7
          have fk7 := hb3.free 7
          simp only [List.getElem?_cons_zero, List.getElem?_cons_succ] at k0 k6 k7))
    all_goals
      have hc5 : Chg (DqB b bs bl) w w3 := ((Chg.refl (DqB b bs bl) w).drew).trans (hc3.mono (fun _ _ e => .inr e))
      go_wp2_with fail
      refine (dend_any 1 _ hb3).mono ?_; rintro r w5 ⟨rfl, hb5, hc6⟩
      go_wp2_with fail
      refine bodyPost_ret (results_none rfl _ _ _) rfl ?_
      exact ⟨rfl, ⟨ap, ⟨u1, u2, u3⟩, eok, hb5, fun e => by cases e⟩, hs3.chg hc6 (Ne.symm h1) (Ne.symm h2), hc5.trans (hc6.mono (fun _ _ e => .inl e))⟩

theorem tfin_iff {q : TPc} : q.fin = true ↔ q = .done := by cases q <;> simp [TPc.fin]

theorem tval_func {q : TPc} (b q1 q2 : Nat) (h : q.fin = false) : ∃ (f : FuncId) (x y : Array Value), q.val b q1 q2 = .func (.func f) x y := by
  cases q
  · cases h
  all_goals exact ⟨_, _, _, rfl⟩

theorem tval_done {q : TPc} (b q1 q2 : Nat) (h : q.fin = true) : q.val b q1 q2 = .nilFunc := by
  cases q
  · rfl
  all_goals cases h

set_option maxRecDepth 8000 in
/-- Any step of a machine that steals. -/
theorem ststep_any {b q1 q2 bs bl : Nat} {e : DEnds} {d : ST} {mem : List Int} {n : Int} (w : World) (h : StAt w b q1 q2 e d) (hs : StoreAt w bs bl mem n) (h1 : b ≠ bs) (h2 : b ≠ bl) (hp : d.pc.fin = false) :
    Calls Tryz.prog 146 #[.pointer (some ⟨b, 0, none⟩), .pointer (some ⟨bs, 0, none⟩)] w fun r w' => r = .returned (.bool (stStep e mem d).2.pc.fin) ∧ StAt w' b q1 q2 e (stStep e mem d).2 ∧ StoreAt w' bs bl (stStep e mem d).1 (cnt n) ∧ Chg (DqB b bs bl) w w' := by
  have g4 := h.blk.cell 4
  simp only [List.getElem?_cons_zero, List.getElem?_cons_succ] at g4
  have hn0 := func_eql0
  have hn1 := func_eql
  cases hq : d.pc
  case done => rw [hq] at hp; cases hp
  case stealTop =>
    have D := stBegun_does w h hs h1 h2 hq
    rw [hq] at g4
    simp only [TPc.val] at g4
    generalize stStep e mem d = rr at *
    clear h
    go_enter Tryz.func146, Tryz.ntmps146
    go_wp2_with fail
    refine D.mono ?_; rintro r w2 ⟨rfl, hd2, hs2, hc2⟩
    have k4 := hd2.blk.cell 4
    simp only [List.getElem?_cons_zero, List.getElem?_cons_succ] at k4
    cases hf : rr.2.pc.fin
    · obtain ⟨f, x, y, hv⟩ := tval_func b q1 q2 hf
      rw [hv] at k4
      go_wp2_with fail
      go_ret
      exact ⟨ret_bool hf.symm, hd2, hs2, hc2⟩
    · rw [tval_done b q1 q2 hf] at k4
      go_wp2_with fail
      go_ret
      exact ⟨ret_bool hf.symm, hd2, hs2, hc2⟩
  case stealBottom =>
    have D := stBottom_does w h hs h1 h2 hq
    rw [hq] at g4
    simp only [TPc.val] at g4
    generalize stStep e mem d = rr at *
    clear h
    go_enter Tryz.func146, Tryz.ntmps146
    go_wp2_with fail
    refine D.mono ?_; rintro r w2 ⟨rfl, hd2, hs2, hc2⟩
    have k4 := hd2.blk.cell 4
    simp only [List.getElem?_cons_zero, List.getElem?_cons_succ] at k4
    cases hf : rr.2.pc.fin
    · obtain ⟨f, x, y, hv⟩ := tval_func b q1 q2 hf
      rw [hv] at k4
      go_wp2_with fail
      go_ret
      exact ⟨ret_bool hf.symm, hd2, hs2, hc2⟩
    · rw [tval_done b q1 q2 hf] at k4
      go_wp2_with fail
      go_ret
      exact ⟨ret_bool hf.symm, hd2, hs2, hc2⟩
  case stealEntry =>
    have D := stEntry_does w h hs h1 h2 hq
    rw [hq] at g4
    simp only [TPc.val] at g4
    generalize stStep e mem d = rr at *
    clear h
    go_enter Tryz.func146, Tryz.ntmps146
    go_wp2_with fail
    refine D.mono ?_; rintro r w2 ⟨rfl, hd2, hs2, hc2⟩
    have k4 := hd2.blk.cell 4
    simp only [List.getElem?_cons_zero, List.getElem?_cons_succ] at k4
    cases hf : rr.2.pc.fin
    · obtain ⟨f, x, y, hv⟩ := tval_func b q1 q2 hf
      rw [hv] at k4
      go_wp2_with fail
      go_ret
      exact ⟨ret_bool hf.symm, hd2, hs2, hc2⟩
    · rw [tval_done b q1 q2 hf] at k4
      go_wp2_with fail
      go_ret
      exact ⟨ret_bool hf.symm, hd2, hs2, hc2⟩
  case stealSwap =>
    have D := stSwap_does w h hs h1 h2 hq
    rw [hq] at g4
    simp only [TPc.val] at g4
    generalize stStep e mem d = rr at *
    clear h
    go_enter Tryz.func146, Tryz.ntmps146
    go_wp2_with fail
    refine D.mono ?_; rintro r w2 ⟨rfl, hd2, hs2, hc2⟩
    have k4 := hd2.blk.cell 4
    simp only [List.getElem?_cons_zero, List.getElem?_cons_succ] at k4
    cases hf : rr.2.pc.fin
    · obtain ⟨f, x, y, hv⟩ := tval_func b q1 q2 hf
      rw [hv] at k4
      go_wp2_with fail
      go_ret
      exact ⟨ret_bool hf.symm, hd2, hs2, hc2⟩
    · rw [tval_done b q1 q2 hf] at k4
      go_wp2_with fail
      go_ret
      exact ⟨ret_bool hf.symm, hd2, hs2, hc2⟩

/-- What came of a machine that is finished. -/
theorem stresult_any {b q1 q2 : Nat} {e : DEnds} {d : ST} (w : World) (h : StAt w b q1 q2 e d) (hp : d.pc = .done) :
    Calls Tryz.prog 147 #[.pointer (some ⟨b, 0, none⟩)] w fun r w' => r = .returned (.tuple #[.int .i64 d.out, .int .u64 d.wd]) ∧ Kept w w' := by
  have hb := h.blk
  rw [hp] at hb
  have g4 := hb.cell 4
  have g7 := hb.cell 7
  have g8 := hb.cell 8
  simp only [List.getElem?_cons_zero, List.getElem?_cons_succ] at g4 g7 g8
  have hn0 := func_neq0
  simp only [TPc.val] at g4
  go_enter Tryz.func147, Tryz.ntmps147
  go_wp2_with fail
  go_region_held3 (fun w' => w'.cell? ⟨b, 8, none⟩ = some (.int .i64 d.out) ∧ w'.cell? ⟨b, 7, none⟩ = some (.int .u64 d.wd)) (first | exact ⟨g8, g7⟩) (fail)
  go_wp2_with fail
  go_ret2
  exact ⟨rfl, (Below.refl _ _).drew⟩

set_option maxRecDepth 8000 in
theorem begunSteal_any (e : DEnds) (w : World) (he : e.ok) :
    Calls Tryz.prog 143 #[.agg #[.int .i64 e.tp, .int .i64 e.bt, .int .i64 e.en, .int .i64 e.rm], .int .u64 0, .func (.func 200) #[] #[]] w fun r w' => ∃ b q1 q2, r = .returned (.pointer (some ⟨b, 0, none⟩)) ∧ StAt w' b q1 q2 e ⟨.stealTop, 0, 0, 0, 0⟩ ∧ w.heap.size ≤ b ∧ w.heap.size ≤ q1 ∧ w.heap.size ≤ q2 ∧ Kept w w' := by
  go_enter Tryz.func143, Tryz.ntmps143
  go_wp2_with fail
  go_ret
  refine ⟨w.heap.size + 1 + 1, w.heap.size + 1, w.heap.size + 1 + 1 + 1, rfl, ⟨⟨by omega, by omega⟩, ⟨by show U 0; unfold U; omega, by show U 0; unfold U; omega, by show U 0; unfold U; omega⟩, he, ?_, fun _ => ?_⟩, by omega, by omega, by omega, ?_⟩
  · exact (blk_new_at _ _ (by simp)).alloc _
  · exact ⟨((blk_new_at _ _ (by simp)).alloc _).alloc _, blk_new_at _ _ (by simp)⟩
  · exact (((((Below.refl w.heap.size w).alloc (Nat.le_refl _) _).alloc (by simp) _).alloc (by simp; omega) _).alloc (by simp; omega) _)

theorem steal_deq (e : DEnds) (w : World) (he : e.ok) :
    Calls Tryz.prog 189 #[.agg #[.int .i64 e.tp, .int .i64 e.bt, .int .i64 e.en, .int .i64 e.rm]] w fun r w' => ∃ b q1 q2, r = .returned (.pointer (some ⟨b, 0, none⟩)) ∧ StAt w' b q1 q2 e ⟨.stealTop, 0, 0, 0, 0⟩ ∧ w.heap.size ≤ b ∧ w.heap.size ≤ q1 ∧ w.heap.size ≤ q2 ∧ Kept w w' := by
  go_enter Tryz.func189, Tryz.ntmps189
  go_wp2_with fail
  refine (begunSteal_any e _ he).mono ?_; rintro r w2 ⟨b, q1, q2, rfl, hd, h1, h2, h3, hk⟩
  go_wp2_with fail
  go_ret
  have hk0 : Kept w (w.alloc (.cells #[.int .i64 e.tp, .int .i64 e.bt, .int .i64 e.en, .int .i64 e.rm] 168)) := (Below.refl _ _).alloc (Nat.le_refl _) _
  have hz := hk0.size
  exact ⟨b, q1, q2, rfl, hd, by omega, by omega, by omega, hk0.trans' hk⟩

end Go.Proofs.YtapdpclgbpgklaaGreat
