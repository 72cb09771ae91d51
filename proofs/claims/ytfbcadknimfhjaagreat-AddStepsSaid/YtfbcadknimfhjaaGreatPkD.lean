/- A stack's machine: walked. A stack's machine: its step; how it is made: walked. -/
import Derived.Test.YtfbcadknimfhjaaGreatPkC
import Derived.Laws.EntriesVeiled
namespace Go.Proofs.YtfbcadknimfhjaaGreat
open Go.RowKit

theorem StoreAt.drew {w : World} {bs bl : Nat} {mem : List Int} {n : Int} (h : StoreAt w bs bl mem n) : StoreAt w.drew bs bl mem n := h.kept (Below.drew (Below.refl _ _))
theorem StoreAt.drewN {w : World} {bs bl : Nat} {mem : List Int} {n : Int} (h : StoreAt w bs bl mem n) (k : Nat) : StoreAt (w.drewN k) bs bl mem n := h.kept ⟨rfl, rfl, rfl, Nat.le_refl _, fun _ _ => rfl⟩

theorem Chg.undrew {S : Nat → Prop} {w w' : World} {k : Nat} (h : Chg S (w.drewN k) w') : Chg S w w' := ⟨h.os, h.tape, h.output, h.size, h.block⟩
theorem Chg.drewN {S : Nat → Prop} {w w' : World} (h : Chg S w w') (k : Nat) : Chg S w (w'.drewN k) := ⟨h.os, h.tape, h.output, h.size, h.block⟩

/-- What a stack's machine does next: nothing; of a push: the head, the link, the swap; of a pop: the head, the link, the swap. -/
inductive SPc where
  | done | pushHead | pushLink | pushSwap | popHead | popLink | popSwap
deriving DecidableEq

/-- What it knows. -/
structure SM where
  pc : SPc
  head : Int
  item : Int
  h : Int
  link : Int

def SM.ok (s : SM) : Prop := (0 ≤ s.item ∧ s.item < 4294967296) ∧ U s.h ∧ (0 ≤ s.link ∧ s.link < 4294967296)

def SPc.val (b : Nat) : SPc → Value
  | .done => .nilFunc
  | .pushHead => .func (.func 121) #[.pointer (some ⟨b, 0, none⟩)] #[]
  | .pushLink => .func (.func 124) #[.pointer (some ⟨b, 0, none⟩)] #[]
  | .pushSwap => .func (.func 125) #[.pointer (some ⟨b, 0, none⟩)] #[]
  | .popHead => .func (.func 104) #[.pointer (some ⟨b, 0, none⟩)] #[]
  | .popLink => .func (.func 113) #[.pointer (some ⟨b, 0, none⟩)] #[]
  | .popSwap => .func (.func 116) #[.pointer (some ⟨b, 0, none⟩)] #[]

/-- A machine's block: its links are a map's method's. -/
abbrev smL (_b : Nat) (fl : FuncId) (bm : Nat) (nx : Value) (head item h link tries : Int) : List Value :=
  [.int .i64 head, .func (.func fl) #[.pointer (some ⟨bm, 0, none⟩)] #[], .int .u32 item, .int .u64 h, nx, .int .u32 link, .int .i64 tries]

/-- A machine stands at block b. -/
def SmAt (w : World) (b : Nat) (fl : FuncId) (bm : Nat) (s : SM) : Prop := s.ok ∧ ∃ tries : Int, Blk w b 147 (smL b fl bm (s.pc.val b) s.head s.item s.h s.link tries)

/-- Where links stand: a map's method. -/
def LinkFn (B bm : Nat) (c : Cfg) (fl : FuncId) (lf : Int → Int) : Prop := ∀ (p : Int) (W : World), MapAt W B bm c → Calls Tryz.prog fl #[.pointer (some ⟨bm, 0, none⟩), .int .i64 p] W fun e W' => e = .returned (.int .i64 (lf p)) ∧ W = W'

theorem link_fn {B bm : Nat} {c : Cfg} (hg : Good c) : LinkFn B bm c 35 (fun p => pPack c p 1) := fun p W hm => mLink_any p W hm hg

theorem loI_range (w : Int) : 0 ≤ loI w ∧ loI w < 4294967296 := by have := loI_bound w; omega

/-- The blocks of a machine, and of memory. -/
abbrev StB (b bs bl : Nat) : Nat → Prop := fun k => k = b ∨ k = bs ∨ k = bl

theorem Chg.stB {b bs bl : Nat} {w w' : World} (h : Chg (MemB bs bl) w w') : Chg (StB b bs bl) w w' := h.mono (fun _ _ e => .inr e)

theorem look_any {b bs bl bm : Nat} {fl : FuncId} {nx : Value} {head item h link tries : Int} {mem : List Int} {n : Int} (w : World) (hb : Blk w b 147 (smL b fl bm nx head item h link tries)) (hs : StoreAt w bs bl mem n) (h1 : b ≠ bs) (h2 : b ≠ bl) :
    Calls Tryz.prog 112 #[.pointer (some ⟨b, 0, none⟩), .pointer (some ⟨bs, 0, none⟩)] w fun e w' => e = .returned (.int .u32 (loI (mget mem head))) ∧
      (∃ t, Blk w' b 147 (smL b fl bm nx head item (mget mem head) link t)) ∧ StoreAt w' bs bl mem (cnt n) ∧ Chg (StB b bs bl) w w' := by
  have g6 := hb.cell 6
  have f6 := hb.free 6
  have g0 := hb.cell 0
  simp only [List.getElem?_cons_zero, List.getElem?_cons_succ] at g6 g0
  have hU := mget_all hs.all head
  go_enter Tryz.func112, Tryz.ntmps112
  go_wp2_with fail
  have hb1 : Blk (w.setCell ⟨b, 6, none⟩ (.int .i64 (wrap64 (tries + 1)))) b 147 (smL b fl bm nx head item h link (wrap64 (tries + 1))) := hb.set' 6 _ rfl
  have hc1 : Chg (StB b bs bl) w (w.setCell ⟨b, 6, none⟩ (.int .i64 (wrap64 (tries + 1)))) := (Chg.refl _ _).setCell _ _ (fun _ => .inl rfl)
  have hs1 : StoreAt (w.setCell ⟨b, 6, none⟩ (.int .i64 (wrap64 (tries + 1)))) bs bl mem n := hs.chg ((Chg.refl (fun k => k = b) w).setCell _ _ (fun _ => rfl)) (Ne.symm h1) (Ne.symm h2)
  generalize w.setCell ⟨b, 6, none⟩ (.int .i64 (wrap64 (tries + 1))) = w1 at *
  refine (load_any _ _ hs1).mono ?_; rintro e w2 ⟨rfl, hs2, hc2⟩
  have hb2 := hc2.blk hb1 h1
  have f3 := hb2.free 3
  have g3 := hb2.cell 3
  simp only [List.getElem?_cons_zero, List.getElem?_cons_succ] at g3
  go_wp2_with fail
  refine (split_any _ _ hU.1 hU.2).mono ?_; rintro e w3 ⟨rfl, n3, rfl⟩
  have hb3 := hb2.set' 3 (.int .u64 (mget mem head)) (l' := smL b fl bm nx head item (mget mem head) link (wrap64 (tries + 1))) rfl
  have hs3 := hs2.chg ((Chg.refl (fun k => k = b) w2).setCell ⟨b, 3, none⟩ (.int .u64 (mget mem head)) (fun _ => rfl)) (Ne.symm h1) (Ne.symm h2)
  have hc3 : Chg (StB b bs bl) w (w2.setCell ⟨b, 3, none⟩ (.int .u64 (mget mem head))) := (hc1.trans (hc2.mono (fun _ _ e => .inr (.inl e)))).setCell _ _ (fun _ => .inl rfl)
  generalize w2.setCell ⟨b, 3, none⟩ (.int .u64 (mget mem head)) = w4 at *
  go_wp2_with fail
  go_ret
  refine ⟨rfl, ⟨_, hb3⟩, hs3.drewN n3, ⟨hc3.os, hc3.tape, hc3.output, hc3.size, hc3.block⟩⟩

/-- The head changed, or another try. -/
theorem turn_hit {b bs bl bm : Nat} {fl : FuncId} {nx nx2 : Value} {head item h link low tries : Int} {mem : List Int} {n : Int} (w : World) (hb : Blk w b 147 (smL b fl bm nx head item h link tries)) (hs : StoreAt w bs bl mem n) (h1 : b ≠ bs) (h2 : b ≠ bl)
    (hU : U h) (hl0 : 0 ≤ low) (hl1 : low < 4294967296) (f' : FuncId) (hnx : nx2 = .func (.func f') #[.pointer (some ⟨b, 0, none⟩)] #[]) (hit : Bool) (hh : mhit mem head h = hit) :
    Calls Tryz.prog 120 #[.pointer (some ⟨b, 0, none⟩), .pointer (some ⟨bs, 0, none⟩), .int .u32 low, nx2] w fun e w' => e = .returned (.tuple #[]) ∧
      Blk w' b 147 (smL b fl bm (if hit then .nilFunc else nx2) head item h link tries) ∧ StoreAt w' bs bl (if hit then mput mem head (turnI h low) else mem) (cnt n) ∧ Chg (StB b bs bl) w w' := by
  have g4 := hb.cell 4
  have f4 := hb.free 4
  simp only [List.getElem?_cons_zero, List.getElem?_cons_succ] at g4
  have hT : U (turnI h low) := by unfold turnI; unfold U; omega
  subst hnx
  go_enter Tryz.func120, Tryz.ntmps120
  go_wp2_with fail
  have hb1 := hb.set' 4 (.func (.func f') #[.pointer (some ⟨b, 0, none⟩)] #[]) (l' := smL b fl bm (.func (.func f') #[.pointer (some ⟨b, 0, none⟩)] #[]) head item h link tries) rfl
  have hs1 := hs.chg ((Chg.refl (fun k => k = b) w).setCell ⟨b, 4, none⟩ (.func (.func f') #[.pointer (some ⟨b, 0, none⟩)] #[]) (fun _ => rfl)) (Ne.symm h1) (Ne.symm h2)
  have hc1 : Chg (StB b bs bl) w (w.setCell ⟨b, 4, none⟩ (.func (.func f') #[.pointer (some ⟨b, 0, none⟩)] #[])) := (Chg.refl _ _).setCell _ _ (fun _ => .inl rfl)
  generalize w.setCell ⟨b, 4, none⟩ (.func (.func f') #[.pointer (some ⟨b, 0, none⟩)] #[]) = w1 at *
  clear hb hs g4 f4
  have g0 := hb1.cell 0
  have g3 := hb1.cell 3
  simp only [List.getElem?_cons_zero, List.getElem?_cons_succ] at g0 g3
  go_wp2_with fail
  go_region_held3 (fun w' => w'.cell? ⟨b, 0, none⟩ = some (.int .i64 head) ∧ w'.cell? ⟨b, 3, none⟩ = some (.int .u64 h)) (first | exact ⟨g0, g3⟩ | exact ⟨k0, k3⟩)
    (first
     | (go_at_call 123; refine (turn_any h low _ hU.1 hU.2 hl0 hl1).mono ?_; rintro e w2 ⟨rfl, n2, rfl⟩)
     | (go_at_call 122; refine (swap_any head h (turnI h low) _ (hs1.drewN (1 + n2)) hT).mono ?_; rintro e w3 ⟨rfl, hs3, hc3⟩
        rw [hh] at hs3 ⊢
        have hb3 := hc3.blk (hb1.drew) (show ¬ MemB bs bl b from fun e => e.elim h1 h2)
        have k0 := hb3.cell 0
        have k3 := hb3.cell 3
        simp only [List.getElem?_cons_zero, List.getElem?_cons_succ] at k0 k3))
  have hc5 := hc1.trans (hc3.undrew.stB (b := b))
  clear hc1 hc3 hs1 hb1 g0 g3
  cases hit
  · go_wp2_with fail
    go_end0
    exact ⟨rfl, hb3, hs3, hc5⟩
  · have f4 := hb3.free 4
    have g4 := hb3.cell 4
    simp only [List.getElem?_cons_zero, List.getElem?_cons_succ] at g4
    go_wp2_with fail
    go_end0
    exact ⟨rfl, hb3.set' 4 _ rfl, hs3.chg ((Chg.refl (fun k => k = b) w3).setCell ⟨b, 4, none⟩ _ (fun _ => rfl)) (Ne.symm h1) (Ne.symm h2), hc5.setCell _ _ (fun _ => .inl rfl)⟩

/-- One step of a stack's machine. -/
def smStep (lf : Int → Int) (mem : List Int) (s : SM) : List Int × SM :=
  match s.pc with
  | .done => (mem, s)
  | .pushHead => (mem, { s with pc := .pushLink, h := mget mem s.head, link := loI (mget mem s.head) })
  | .pushLink => (mput mem (lf s.item) s.link, { s with pc := .pushSwap })
  | .pushSwap => if mhit mem s.head s.h then (mput mem s.head (turnI s.h s.item), { s with pc := .done }) else (mem, { s with pc := .pushHead })
  | .popHead => (mem, { s with pc := if loI (mget mem s.head) = 0 then .done else .popLink, h := mget mem s.head, item := loI (mget mem s.head) })
  | .popLink => (mem, { s with pc := .popSwap, link := loI (mget mem (lf s.item)) })
  | .popSwap => if mhit mem s.head s.h then (mput mem s.head (turnI s.h s.link), { s with pc := .done }) else (mem, { s with pc := .popHead })

theorem loI_zero (w : Int) : (loI w == 0) = decide (loI w = 0) := by
  by_cases h : loI w = 0 <;> simp [h]

/-- A step's contract: what a step that is not finished does. -/
def StepDoes (f : FuncId) (b bs bl B bm : Nat) (c : Cfg) (fl : FuncId) (lf : Int → Int) (s : SM) : Prop :=
  ∀ (mem : List Int) (n : Int) (w : World), SmAt w b fl bm s → StoreAt w bs bl mem n → MapAt w B bm c →
    Calls Tryz.prog f #[.pointer (some ⟨b, 0, none⟩), .pointer (some ⟨bs, 0, none⟩)] w fun e w' => e = .returned (.tuple #[]) ∧
      SmAt w' b fl bm (smStep lf mem s).2 ∧ StoreAt w' bs bl (smStep lf mem s).1 (cnt n) ∧ Chg (StB b bs bl) w w'

theorem pushHead_does {b bs bl B bm : Nat} {c : Cfg} {fl : FuncId} {lf : Int → Int} {s : SM} (h1 : b ≠ bs) (h2 : b ≠ bl) (hp : s.pc = .pushHead) : StepDoes 121 b bs bl B bm c fl lf s := by
  intro mem n w hsm hs hm
  obtain ⟨⟨hi, hU, hl⟩, tries, hb⟩ := hsm
  have hU2 := mget_all hs.all s.head
  have hlo := loI_range (mget mem s.head)
  simp only [smStep, hp] at hb ⊢
  go_enter Tryz.func121, Tryz.ntmps121
  go_wp2_with fail
  refine (look_any w hb hs h1 h2).mono ?_; rintro e w2 ⟨rfl, ⟨t2, hb2⟩, hs2, hc2⟩
  have f5 := hb2.free 5
  have g5 := hb2.cell 5
  have f4 := hb2.free 4
  have g4 := hb2.cell 4
  simp only [List.getElem?_cons_zero, List.getElem?_cons_succ] at g5 g4
  go_wp2_with fail
  go_end0
  refine ⟨rfl, ⟨⟨hi, hU2, hlo⟩, t2, (hb2.set' 5 _ rfl).set' 4 _ rfl⟩, ?_, (hc2.setCell _ _ (fun _ => .inl rfl)).setCell _ _ (fun _ => .inl rfl)⟩
  exact hs2.chg (((Chg.refl (fun k => k = b) w2).setCell ⟨b, 5, none⟩ _ (fun _ => rfl)).setCell ⟨b, 4, none⟩ _ (fun _ => rfl)) (Ne.symm h1) (Ne.symm h2)

theorem wrap_i64_u32 {x : Int} (h0 : 0 ≤ x) (h1 : x < 4294967296) : IntKind.i64.wrap x = x := IntWalk.i64_in _ (by omega)
theorem wrap_u64_u32 {x : Int} (h0 : 0 ≤ x) (h1 : x < 4294967296) : IntKind.u64.wrap x = x := by rw [IntKind.wrap_u64]; omega

set_option maxRecDepth 8000 in
theorem pushLink_does {b bs bl B bm : Nat} {c : Cfg} {s : SM} (hg : Good c) (h1 : b ≠ bs) (h2 : b ≠ bl) (hp : s.pc = .pushLink) : StepDoes 124 b bs bl B bm c 35 (fun p => pPack c p 1) s := by
  intro mem n w hsm hs hm
  obtain ⟨⟨⟨hi0, hi1⟩, hU, ⟨hl0, hl1⟩⟩, tries, hb⟩ := hsm
  simp only [smStep, hp] at hb ⊢
  have g1 := hb.cell 1
  have g2 := hb.cell 2
  have g5 := hb.cell 5
  simp only [List.getElem?_cons_zero, List.getElem?_cons_succ] at g1 g2 g5
  have hx : U s.link := by unfold U; omega
  have x1 := wrap_i64_u32 hi0 hi1
  have x2 := wrap_u64_u32 hl0 hl1
  go_enter Tryz.func124, Tryz.ntmps124
  go_wp2_with fail
  go_region_held3 (fun w' => w'.cell? ⟨b, 1, none⟩ = some (.func (.func 35) #[.pointer (some ⟨bm, 0, none⟩)] #[]) ∧ w'.cell? ⟨b, 2, none⟩ = some (.int .u32 s.item) ∧ w'.cell? ⟨b, 5, none⟩ = some (.int .u32 s.link))
    (first | exact ⟨g1, g2, g5⟩ | exact ⟨k1, k2, k5⟩)
    (first
     | (go_at_call 21; refine (put_any (pPack c s.item 1) s.link _ hs.drew hx).mono ?_; rintro e w3 ⟨rfl, hs3, hc3⟩
        have hb3 := hc3.blk (hb.drew) (show ¬ MemB bs bl b from fun e => e.elim h1 h2)
        have k1 := hb3.cell 1
        have k2 := hb3.cell 2
        have k5 := hb3.cell 5
        simp only [List.getElem?_cons_zero, List.getElem?_cons_succ] at k1 k2 k5)
     | (go_at_call 35; refine (mLink_any s.item _ hm.drew hg).mono ?_; rintro e w2 ⟨rfl, rfl⟩))
  have f4 := hb3.free 4
  have g4 := hb3.cell 4
  simp only [List.getElem?_cons_zero, List.getElem?_cons_succ] at g4
  have hc5 := (Chg.undrew (k := 1) hc3).stB (b := b)
  go_wp2_with fail
  go_end0
  exact ⟨rfl, ⟨⟨⟨hi0, hi1⟩, hU, ⟨hl0, hl1⟩⟩, tries, hb3.set' 4 _ rfl⟩, hs3.chg ((Chg.refl (fun k => k = b) w3).setCell ⟨b, 4, none⟩ _ (fun _ => rfl)) (Ne.symm h1) (Ne.symm h2), hc5.setCell _ _ (fun _ => .inl rfl)⟩

theorem wrap_u32_lo (x : Int) : IntKind.u32.wrap x = loI x := by rw [IntKind.wrap_u32]; rfl

set_option maxRecDepth 8000 in
theorem popLink_does {b bs bl B bm : Nat} {c : Cfg} {s : SM} (hg : Good c) (h1 : b ≠ bs) (h2 : b ≠ bl) (hp : s.pc = .popLink) : StepDoes 113 b bs bl B bm c 35 (fun p => pPack c p 1) s := by
  intro mem n w hsm hs hm
  obtain ⟨⟨⟨hi0, hi1⟩, hU, hl⟩, tries, hb⟩ := hsm
  simp only [smStep, hp] at hb ⊢
  have g1 := hb.cell 1
  have g2 := hb.cell 2
  simp only [List.getElem?_cons_zero, List.getElem?_cons_succ] at g1 g2
  have x1 := wrap_i64_u32 hi0 hi1
  have x2 := wrap_u32_lo (mget mem (pPack c s.item 1))
  have hlo := loI_range (mget mem (pPack c s.item 1))
  go_enter Tryz.func113, Tryz.ntmps113
  go_wp2_with fail
  go_region_held3 (fun w' => w'.cell? ⟨b, 1, none⟩ = some (.func (.func 35) #[.pointer (some ⟨bm, 0, none⟩)] #[]) ∧ w'.cell? ⟨b, 2, none⟩ = some (.int .u32 s.item))
    (first | exact ⟨g1, g2⟩ | exact ⟨k1, k2⟩ | exact ⟨keepCell k1 (by simp), keepCell k2 (by simp)⟩)
    (first
     | (go_at_call 58; refine (load_any (pPack c s.item 1) _ hs.drew).mono ?_; rintro e w3 ⟨rfl, hs3, hc3⟩
        have hb3 := hc3.blk (hb.drew) h1
        have k1 := hb3.cell 1
        have k2 := hb3.cell 2
        have f5 := hb3.free 5
        have g5 := hb3.cell 5
        simp only [List.getElem?_cons_zero, List.getElem?_cons_succ] at k1 k2 g5)
     | (go_at_call 35; refine (mLink_any s.item _ hm.drew hg).mono ?_; rintro e w2 ⟨rfl, rfl⟩))
  have f4 := hb3.free 4
  have g4 := hb3.cell 4
  simp only [List.getElem?_cons_zero, List.getElem?_cons_succ] at g4
  have hc5 := ((Chg.undrew (k := 1) hc3).memB (bl := bl)).stB (b := b)
  go_wp2_with fail
  go_end0
  refine ⟨rfl, ⟨⟨⟨hi0, hi1⟩, hU, hlo⟩, tries, (hb3.set' 5 _ rfl).set' 4 _ rfl⟩, ?_, (hc5.setCell _ _ (fun _ => .inl rfl)).setCell _ _ (fun _ => .inl rfl)⟩
  exact hs3.chg (((Chg.refl (fun k => k = b) w3).setCell ⟨b, 5, none⟩ _ (fun _ => rfl)).setCell ⟨b, 4, none⟩ _ (fun _ => rfl)) (Ne.symm h1) (Ne.symm h2)

theorem pushSwap_does {b bs bl B bm : Nat} {c : Cfg} {fl : FuncId} {lf : Int → Int} {s : SM} (h1 : b ≠ bs) (h2 : b ≠ bl) (hp : s.pc = .pushSwap) : StepDoes 125 b bs bl B bm c fl lf s := by
  intro mem n w hsm hs hm
  obtain ⟨⟨⟨hi0, hi1⟩, hU, hl⟩, tries, hb⟩ := hsm
  simp only [smStep, hp] at hb ⊢
  have g2 := hb.cell 2
  simp only [List.getElem?_cons_zero, List.getElem?_cons_succ] at g2
  cases hh : mhit mem s.head s.h
  · simp only [Bool.false_eq_true, if_false]
    go_enter Tryz.func125, Tryz.ntmps125
    go_wp2_with fail
    refine (turn_hit w hb hs h1 h2 hU hi0 hi1 121 rfl false hh).mono ?_; rintro e w2 ⟨rfl, hb2, hs2, hc2⟩
    simp only [Bool.false_eq_true, if_false] at hb2 hs2
    clear hh
    go_wp2_with fail
    go_end0
    exact ⟨rfl, ⟨⟨⟨hi0, hi1⟩, hU, hl⟩, tries, hb2⟩, hs2, hc2⟩
  · simp only [if_true]
    go_enter Tryz.func125, Tryz.ntmps125
    go_wp2_with fail
    refine (turn_hit w hb hs h1 h2 hU hi0 hi1 121 rfl true hh).mono ?_; rintro e w2 ⟨rfl, hb2, hs2, hc2⟩
    simp only [if_true] at hb2 hs2
    clear hh
    go_wp2_with fail
    go_end0
    exact ⟨rfl, ⟨⟨⟨hi0, hi1⟩, hU, hl⟩, tries, hb2⟩, hs2, hc2⟩

theorem popSwap_does {b bs bl B bm : Nat} {c : Cfg} {fl : FuncId} {lf : Int → Int} {s : SM} (h1 : b ≠ bs) (h2 : b ≠ bl) (hp : s.pc = .popSwap) : StepDoes 116 b bs bl B bm c fl lf s := by
  intro mem n w hsm hs hm
  obtain ⟨⟨hi, hU, ⟨hl0, hl1⟩⟩, tries, hb⟩ := hsm
  simp only [smStep, hp] at hb ⊢
  have g5 := hb.cell 5
  simp only [List.getElem?_cons_zero, List.getElem?_cons_succ] at g5
  cases hh : mhit mem s.head s.h
  · simp only [Bool.false_eq_true, if_false]
    go_enter Tryz.func116, Tryz.ntmps116
    go_wp2_with fail
    refine (turn_hit w hb hs h1 h2 hU hl0 hl1 104 rfl false hh).mono ?_; rintro e w2 ⟨rfl, hb2, hs2, hc2⟩
    simp only [Bool.false_eq_true, if_false] at hb2 hs2
    clear hh
    go_wp2_with fail
    go_end0
    exact ⟨rfl, ⟨⟨hi, hU, ⟨hl0, hl1⟩⟩, tries, hb2⟩, hs2, hc2⟩
  · simp only [if_true]
    go_enter Tryz.func116, Tryz.ntmps116
    go_wp2_with fail
    refine (turn_hit w hb hs h1 h2 hU hl0 hl1 104 rfl true hh).mono ?_; rintro e w2 ⟨rfl, hb2, hs2, hc2⟩
    simp only [if_true] at hb2 hs2
    clear hh
    go_wp2_with fail
    go_end0
    exact ⟨rfl, ⟨⟨hi, hU, ⟨hl0, hl1⟩⟩, tries, hb2⟩, hs2, hc2⟩

theorem popHead_does {b bs bl B bm : Nat} {c : Cfg} {fl : FuncId} {lf : Int → Int} {s : SM} (h1 : b ≠ bs) (h2 : b ≠ bl) (hp : s.pc = .popHead) : StepDoes 104 b bs bl B bm c fl lf s := by
  intro mem n w hsm hs hm
  obtain ⟨⟨hi, hU, hl⟩, tries, hb⟩ := hsm
  have hU2 := mget_all hs.all s.head
  have hlo := loI_range (mget mem s.head)
  simp only [smStep, hp] at hb ⊢
  by_cases hz : loI (mget mem s.head) = 0
  · rw [if_pos hz]
    have hzb : (loI (mget mem s.head) == 0) = true := by simpa using hz
    clear hz
    go_enter Tryz.func104, Tryz.ntmps104
    go_wp2_with fail
    refine (look_any w hb hs h1 h2).mono ?_; rintro e w2 ⟨rfl, ⟨t2, hb2⟩, hs2, hc2⟩
    have f2 := hb2.free 2
    have g2 := hb2.cell 2
    have f4 := hb2.free 4
    have g4 := hb2.cell 4
    simp only [List.getElem?_cons_zero, List.getElem?_cons_succ] at g2 g4
    go_wp2_with fail
    go_end0
    refine ⟨rfl, ⟨⟨hlo, hU2, hl⟩, t2, ((hb2.set' 2 _ rfl).set' 4 _ rfl).set' 4 _ rfl⟩, ?_, ((hc2.setCell _ _ (fun _ => .inl rfl)).setCell _ _ (fun _ => .inl rfl)).setCell _ _ (fun _ => .inl rfl)⟩
    exact hs2.chg ((((Chg.refl (fun k => k = b) w2).setCell ⟨b, 2, none⟩ _ (fun _ => rfl)).setCell ⟨b, 4, none⟩ _ (fun _ => rfl)).setCell ⟨b, 4, none⟩ _ (fun _ => rfl)) (Ne.symm h1) (Ne.symm h2)
  · rw [if_neg hz]
    have hzb : (loI (mget mem s.head) == 0) = false := by simpa using hz
    clear hz
    go_enter Tryz.func104, Tryz.ntmps104
    go_wp2_with fail
    refine (look_any w hb hs h1 h2).mono ?_; rintro e w2 ⟨rfl, ⟨t2, hb2⟩, hs2, hc2⟩
    have f2 := hb2.free 2
    have g2 := hb2.cell 2
    have f4 := hb2.free 4
    have g4 := hb2.cell 4
    simp only [List.getElem?_cons_zero, List.getElem?_cons_succ] at g2 g4
    go_wp2_with fail
    go_end0
    refine ⟨rfl, ⟨⟨hlo, hU2, hl⟩, t2, (hb2.set' 2 _ rfl).set' 4 _ rfl⟩, ?_, (hc2.setCell _ _ (fun _ => .inl rfl)).setCell _ _ (fun _ => .inl rfl)⟩
    exact hs2.chg (((Chg.refl (fun k => k = b) w2).setCell ⟨b, 2, none⟩ _ (fun _ => rfl)).setCell ⟨b, 4, none⟩ _ (fun _ => rfl)) (Ne.symm h1) (Ne.symm h2)

end Go.Proofs.YtfbcadknimfhjaaGreat

namespace Go.Proofs.YtfbcadknimfhjaaGreat
open Go.RowKit

theorem keepSet {w : World} {a b : Addr} {u v : Value} (h : w.cell? a = some v) (hne : b ≠ a) : (w.setCell b u).cell? a = some v := by
  have := keepCell (u := u) h hne
  exact this

/-- Is it finished? -/
def SPc.fin : SPc → Bool
  | .done => true
  | _ => false

theorem func_eql (fn : Fn) (first captured : Array Value) (w : World) : (binOp .eql 92 (.func fn first captured) .nilFunc).run Tryz.prog w = .ok (.bool false) w := by kernel_rfl
theorem func_eql0 (w : World) : (binOp .eql 92 .nilFunc .nilFunc).run Tryz.prog w = .ok (.bool true) w := by kernel_rfl
theorem func_neq (fn : Fn) (first captured : Array Value) (w : World) : (binOp .neq 92 (.func fn first captured) .nilFunc).run Tryz.prog w = .ok (.bool true) w := by kernel_rfl
theorem func_neq0 (w : World) : (binOp .neq 92 .nilFunc .nilFunc).run Tryz.prog w = .ok (.bool false) w := by kernel_rfl

theorem fin_eql (b : Nat) (q : SPc) (W : World) : (binOp .eql 92 (q.val b) .nilFunc).run Tryz.prog W = .ok (.bool q.fin) W := by
  cases q
  · exact func_eql0 W
  all_goals exact func_eql _ _ _ W

theorem fin_neq (b : Nat) (q : SPc) (W : World) : (binOp .neq 92 (q.val b) .nilFunc).run Tryz.prog W = .ok (.bool (!q.fin)) W := by
  cases q
  · exact func_neq0 W
  all_goals exact func_neq _ _ _ W

theorem val_func {q : SPc} (b : Nat) (h : q.fin = false) : ∃ f : FuncId, q.val b = .func (.func f) #[.pointer (some ⟨b, 0, none⟩)] #[] := by
  cases q
  · cases h
  all_goals exact ⟨_, rfl⟩

theorem val_done {q : SPc} (b : Nat) (h : q.fin = true) : q.val b = .nilFunc := by
  cases q
  · rfl
  all_goals cases h

theorem item_any {b bm : Nat} {fl : FuncId} {s : SM} (w : World) (hsm : SmAt w b fl bm s) :
    Calls Tryz.prog 106 #[.pointer (some ⟨b, 0, none⟩)] w fun e w' => e = .returned (.int .i64 (if s.pc.fin then s.item else 0)) ∧ w = w' := by
  obtain ⟨⟨⟨hi0, hi1⟩, _, _⟩, tries, hb⟩ := hsm
  have g2 := hb.cell 2
  have g4 := hb.cell 4
  simp only [List.getElem?_cons_zero, List.getElem?_cons_succ] at g2 g4
  have hn0 := func_neq0
  have hn1 := func_neq
  cases hf : s.pc.fin
  · obtain ⟨f, hv⟩ := val_func b hf
    rw [hv] at g4
    simp only [Bool.false_eq_true, if_false]
    go_enter Tryz.func106, Tryz.ntmps106
    go_wp2_with fail
    go_ret
    exact ⟨rfl, rfl⟩
  · rw [val_done b hf] at g4
    simp only [if_true]
    go_enter Tryz.func106, Tryz.ntmps106
    go_wp2_with fail
    go_ret
    exact ⟨rfl, rfl⟩

theorem stepDone {b bm : Nat} {fl : FuncId} {s : SM} (w : World) (sp : Option Addr) (hsm : SmAt w b fl bm s) (hp : s.pc = .done) :
    Calls Tryz.prog 143 #[.pointer (some ⟨b, 0, none⟩), .pointer sp] w fun e w' => e = .returned (.bool true) ∧ w = w' := by
  obtain ⟨_, tries, hb⟩ := hsm
  rw [hp] at hb
  have g4 := hb.cell 4
  simp only [List.getElem?_cons_zero, List.getElem?_cons_succ] at g4
  have hn : ∀ W, (binOp .eql 92 .nilFunc .nilFunc).run Tryz.prog W = .ok (.bool true) W := fun W => fin_eql b .done W
  simp only [SPc.val] at g4
  go_enter Tryz.func143, Tryz.ntmps143
  go_wp2_with fail
  go_ret
  exact ⟨rfl, rfl⟩

theorem stepNil (w : World) (sp : Value) :
    Calls Tryz.prog 143 #[.pointer none, sp] w fun e w' => e = .returned (.bool true) ∧ w = w' := by
  go_enter Tryz.func143, Tryz.ntmps143
  go_wp2_with fail
  go_ret
  exact ⟨rfl, rfl⟩

/-- The end of a step: is it finished? -/
theorem step_tail (q : SPc) : q.fin = decide (q = .done) := by cases q <;> rfl

set_option maxRecDepth 8000 in
theorem step_any {b bs bl B bm : Nat} {c : Cfg} {s : SM} {mem : List Int} {n : Int} (w : World) (hg : Good c) (h1 : b ≠ bs) (h2 : b ≠ bl) (hsm : SmAt w b 35 bm s) (hs : StoreAt w bs bl mem n) (hm : MapAt w B bm c) (hp : s.pc.fin = false) :
    Calls Tryz.prog 143 #[.pointer (some ⟨b, 0, none⟩), .pointer (some ⟨bs, 0, none⟩)] w fun e w' => e = .returned (.bool (smStep (fun p => pPack c p 1) mem s).2.pc.fin) ∧
      SmAt w' b 35 bm (smStep (fun p => pPack c p 1) mem s).2 ∧ StoreAt w' bs bl (smStep (fun p => pPack c p 1) mem s).1 (cnt n) ∧ Chg (StB b bs bl) w w' := by
  obtain ⟨hok, tries, hb⟩ := id hsm
  have g4 := hb.cell 4
  simp only [List.getElem?_cons_zero, List.getElem?_cons_succ] at g4
  have hn0 := func_eql0
  have hn1 := func_eql
  have D : ∀ f : FuncId, StepDoes f b bs bl B bm c 35 (fun p => pPack c p 1) s → Calls Tryz.prog f #[.pointer (some ⟨b, 0, none⟩), .pointer (some ⟨bs, 0, none⟩)] w fun e w' => e = .returned (.tuple #[]) ∧
      SmAt w' b 35 bm (smStep (fun p => pPack c p 1) mem s).2 ∧ StoreAt w' bs bl (smStep (fun p => pPack c p 1) mem s).1 (cnt n) ∧ Chg (StB b bs bl) w w' := fun f h => h mem n w hsm hs hm
  generalize hr : smStep (fun p => pPack c p 1) mem s = r at *
  obtain ⟨mem2, s2⟩ := r
  have E : ∃ f : FuncId, s.pc.val b = .func (.func f) #[.pointer (some ⟨b, 0, none⟩)] #[] ∧ True := by
    obtain ⟨f, hf⟩ := val_func b hp
    exact ⟨f, hf, trivial⟩
  clear hsm hm
  cases hq : s.pc
  case done => rw [hq] at hp; cases hp
  case pushHead =>
    have D1 := D _ (pushHead_does h1 h2 hq)
    rw [hq] at g4
    simp only [SPc.val] at g4
    clear D E hb hr
    go_enter Tryz.func143, Tryz.ntmps143
    go_wp2_with fail
    refine D1.mono ?_; rintro e w2 ⟨rfl, hsm2, hs2, hc2⟩
    obtain ⟨hok2, t2, hb2⟩ := id hsm2
    have k4 := hb2.cell 4
    simp only [List.getElem?_cons_zero, List.getElem?_cons_succ] at k4
    cases hf : s2.pc.fin
    · obtain ⟨f, hv⟩ := val_func b hf
      rw [hv] at k4
      go_wp2_with fail
      go_ret
      exact ⟨ret_bool hf.symm, hsm2, hs2, hc2⟩
    · rw [val_done b hf] at k4
      go_wp2_with fail
      go_ret
      exact ⟨ret_bool hf.symm, hsm2, hs2, hc2⟩
  case pushLink =>
    have D1 := D _ (pushLink_does hg h1 h2 hq)
    rw [hq] at g4
    simp only [SPc.val] at g4
    clear D E hb hr
    go_enter Tryz.func143, Tryz.ntmps143
    go_wp2_with fail
    refine D1.mono ?_; rintro e w2 ⟨rfl, hsm2, hs2, hc2⟩
    obtain ⟨hok2, t2, hb2⟩ := id hsm2
    have k4 := hb2.cell 4
    simp only [List.getElem?_cons_zero, List.getElem?_cons_succ] at k4
    cases hf : s2.pc.fin
    · obtain ⟨f, hv⟩ := val_func b hf
      rw [hv] at k4
      go_wp2_with fail
      go_ret
      exact ⟨ret_bool hf.symm, hsm2, hs2, hc2⟩
    · rw [val_done b hf] at k4
      go_wp2_with fail
      go_ret
      exact ⟨ret_bool hf.symm, hsm2, hs2, hc2⟩
  case pushSwap =>
    have D1 := D _ (pushSwap_does h1 h2 hq)
    rw [hq] at g4
    simp only [SPc.val] at g4
    clear D E hb hr
    go_enter Tryz.func143, Tryz.ntmps143
    go_wp2_with fail
    refine D1.mono ?_; rintro e w2 ⟨rfl, hsm2, hs2, hc2⟩
    obtain ⟨hok2, t2, hb2⟩ := id hsm2
    have k4 := hb2.cell 4
    simp only [List.getElem?_cons_zero, List.getElem?_cons_succ] at k4
    cases hf : s2.pc.fin
    · obtain ⟨f, hv⟩ := val_func b hf
      rw [hv] at k4
      go_wp2_with fail
      go_ret
      exact ⟨ret_bool hf.symm, hsm2, hs2, hc2⟩
    · rw [val_done b hf] at k4
      go_wp2_with fail
      go_ret
      exact ⟨ret_bool hf.symm, hsm2, hs2, hc2⟩
  case popHead =>
    have D1 := D _ (popHead_does h1 h2 hq)
    rw [hq] at g4
    simp only [SPc.val] at g4
    clear D E hb hr
    go_enter Tryz.func143, Tryz.ntmps143
    go_wp2_with fail
    refine D1.mono ?_; rintro e w2 ⟨rfl, hsm2, hs2, hc2⟩
    obtain ⟨hok2, t2, hb2⟩ := id hsm2
    have k4 := hb2.cell 4
    simp only [List.getElem?_cons_zero, List.getElem?_cons_succ] at k4
    cases hf : s2.pc.fin
    · obtain ⟨f, hv⟩ := val_func b hf
      rw [hv] at k4
      go_wp2_with fail
      go_ret
      exact ⟨ret_bool hf.symm, hsm2, hs2, hc2⟩
    · rw [val_done b hf] at k4
      go_wp2_with fail
      go_ret
      exact ⟨ret_bool hf.symm, hsm2, hs2, hc2⟩
  case popLink =>
    have D1 := D _ (popLink_does hg h1 h2 hq)
    rw [hq] at g4
    simp only [SPc.val] at g4
    clear D E hb hr
    go_enter Tryz.func143, Tryz.ntmps143
    go_wp2_with fail
    refine D1.mono ?_; rintro e w2 ⟨rfl, hsm2, hs2, hc2⟩
    obtain ⟨hok2, t2, hb2⟩ := id hsm2
    have k4 := hb2.cell 4
    simp only [List.getElem?_cons_zero, List.getElem?_cons_succ] at k4
    cases hf : s2.pc.fin
    · obtain ⟨f, hv⟩ := val_func b hf
      rw [hv] at k4
      go_wp2_with fail
      go_ret
      exact ⟨ret_bool hf.symm, hsm2, hs2, hc2⟩
    · rw [val_done b hf] at k4
      go_wp2_with fail
      go_ret
      exact ⟨ret_bool hf.symm, hsm2, hs2, hc2⟩
  case popSwap =>
    have D1 := D _ (popSwap_does h1 h2 hq)
    rw [hq] at g4
    simp only [SPc.val] at g4
    clear D E hb hr
    go_enter Tryz.func143, Tryz.ntmps143
    go_wp2_with fail
    refine D1.mono ?_; rintro e w2 ⟨rfl, hsm2, hs2, hc2⟩
    obtain ⟨hok2, t2, hb2⟩ := id hsm2
    have k4 := hb2.cell 4
    simp only [List.getElem?_cons_zero, List.getElem?_cons_succ] at k4
    cases hf : s2.pc.fin
    · obtain ⟨f, hv⟩ := val_func b hf
      rw [hv] at k4
      go_wp2_with fail
      go_ret
      exact ⟨ret_bool hf.symm, hsm2, hs2, hc2⟩
    · rw [val_done b hf] at k4
      go_wp2_with fail
      go_ret
      exact ⟨ret_bool hf.symm, hsm2, hs2, hc2⟩

theorem push_any {bm : Nat} {fl : FuncId} {head item : Int} (w : World) (hi0 : 0 ≤ item) (hi1 : item < 4294967296) :
    Calls Tryz.prog 117 #[.int .i64 head, .func (.func fl) #[.pointer (some ⟨bm, 0, none⟩)] #[], .int .i64 item] w fun e w' => e = .returned (.pointer (some ⟨w.heap.size, 0, none⟩)) ∧
      SmAt w' w.heap.size fl bm ⟨.pushHead, head, item, 0, 0⟩ ∧ w'.heap.size = w.heap.size + 1 ∧ Kept w w' := by
  have x1 : IntKind.u32.wrap item = item := by rw [IntKind.wrap_u32]; omega
  go_enter Tryz.func117, Tryz.ntmps117
  go_wp2_with fail
  go_ret
  have hok : SM.ok ⟨.pushHead, head, item, 0, 0⟩ := ⟨⟨hi0, hi1⟩, ⟨Int.le_refl 0, (by decide : (0 : Int) < 18446744073709551616)⟩, ⟨Int.le_refl 0, (by decide : (0 : Int) < 4294967296)⟩⟩
  exact ⟨rfl, ⟨hok, 0, Blk.new _ _ _⟩, by simp, (Below.refl _ _).alloc (Nat.le_refl _) _⟩

theorem pop_any {bm : Nat} {fl : FuncId} {head : Int} (w : World) :
    Calls Tryz.prog 88 #[.int .i64 head, .func (.func fl) #[.pointer (some ⟨bm, 0, none⟩)] #[]] w fun e w' => e = .returned (.pointer (some ⟨w.heap.size, 0, none⟩)) ∧
      SmAt w' w.heap.size fl bm ⟨.popHead, head, 0, 0, 0⟩ ∧ w'.heap.size = w.heap.size + 1 ∧ Kept w w' := by
  go_enter Tryz.func88, Tryz.ntmps88
  go_wp2_with fail
  go_ret
  have hok : SM.ok ⟨.popHead, head, 0, 0, 0⟩ := ⟨⟨Int.le_refl 0, (by decide : (0 : Int) < 4294967296)⟩, ⟨Int.le_refl 0, (by decide : (0 : Int) < 18446744073709551616)⟩, ⟨Int.le_refl 0, (by decide : (0 : Int) < 4294967296)⟩⟩
  exact ⟨rfl, ⟨hok, 0, Blk.new _ _ _⟩, by simp, (Below.refl _ _).alloc (Nat.le_refl _) _⟩

end Go.Proofs.YtfbcadknimfhjaaGreat
