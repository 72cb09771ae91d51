/- A mutator's tasks that nobody else has seen: the buffer; what its machine does: walked. -/
import Derived.Test.YtapdpclgbpgklaaGreatPkClaim
import Derived.Test.YtapdpclgbpgklaaGreatPkH
namespace Go.Proofs.YtapdpclgbpgklaaGreat
open Go.RowKit

/-- What a step did. -/
structure Ev where
  k : Int
  who : Int
  a : Int
  b : Int
  c : Int
deriving DecidableEq

abbrev Ev.zero : Ev := ⟨0, 0, 0, 0, 0⟩

/-- What a buffer's machine does next. -/
inductive BPc where
  | done | claims | puts
deriving DecidableEq

def BPc.val (b : Nat) : BPc → Value
  | .done => .nilFunc
  | .claims => .func (.func 78) #[.pointer (some ⟨b, 0, none⟩)] #[]
  | .puts => .func (.func 118) #[.pointer (some ⟨b, 0, none⟩)] #[]

def BPc.fin : BPc → Bool
  | .done => true
  | _ => false

/-- What it knows. -/
structure BS where
  pc : BPc
  v : Int
  cm : CM
  pm : PM
  ev : Ev

abbrev bsL (bb : Nat) (v : Int) (cp pp : Value) (e : Ev) (nx : Value) : List Value := [.pointer (some ⟨bb, 0, none⟩), .int .i64 v, cp, pp, .int .i64 e.k, .int .i64 e.who, .int .i64 e.a, .int .i64 e.b, .int .i64 e.c, nx]

/-- Two numbers as a word. -/
def pairI (a b : Int) : Int := loI a * 4294967296 + loI b

theorem pairI_U (a b : Int) : U (pairI a b) := by
  have h1 := loI_range a
  have h2 := loI_range b
  unfold pairI U; omega

theorem wrap_u32_loI (x : Int) : IntKind.u32.wrap x = loI x := by rw [IntKind.wrap_u32]; rfl

theorem cfg_bu (a b d e f g i j k l m n : Int) (W : World) : (Instr.field 24 (.agg #[.int .i64 a, .int .i64 b, .int .i64 d, .int .i64 e, .int .i64 f, .int .i64 g, .int .i64 i, .int .i64 j, .int .i64 k, .int .i64 l, .int .i64 m, .int .i64 n]) 5).run Tryz.prog W = .ok (.int .i64 l) W := by kernel_rfl

theorem own_addr {w : World} {base : Nat} {e : TypeId} {v : Value} {n : Nat} {xs : List Value} (h : w.ownsRow base e 1 v n xs) (hn : 0 < n) : ∃ g cap, v = .slice (some ⟨g, 0, none⟩) n cap ∧ n ≤ cap ∧ base ≤ g ∧ g < w.heap.size ∧ ∀ i u, xs[i]? = some u → w.cell? ⟨g, i, none⟩ = some u := by
  have hl : xs.length = n := by simpa using h.1
  rcases h.2 with ⟨_, h0⟩ | ⟨g, cap, cur, rfl, hb, hh, h1, h2, h3, h4⟩
  · omega
  · refine ⟨g, cap, rfl, by omega, hb, lt_of_block hh, fun i u hi => ?_⟩
    rw [cell_of_row w g i _ _ _ hh]
    simp only [Nat.mul_one] at h4
    rw [← h4, List.getElem?_take] at hi
    split at hi
    · rw [← Array.getElem?_toList]; exact hi
    · cases hi

theorem Addr.add0 (g i : Nat) : (⟨g, 0, none⟩ : Addr).add i = ⟨g, i, none⟩ := by unfold Addr.add; split <;> simp_all

set_option maxRecDepth 8000 in
set_option maxHeartbeats 1600000 in
/-- All tasks begin to be put into the pool. -/
theorem bflush_some {x bb bm bs bl base B : Nat} {c : Cfg} {ts : List Int} {tv : Value} {v : Int} {cp pp nx : Value} {ev : Ev} {mem : List Int} {n : Int} (w : World) (hx : Blk w x 133 (bsL bb v cp pp ev nx)) (hb : Blk w bb 129 [.pointer (some ⟨bm, 0, none⟩), tv])
    (own : w.ownsRow base 26 1 tv ts.length (ts.map (Value.int .u64))) (hall : ∀ y ∈ ts, U y) (hle : ts.length ≤ 1000) (hpos : 0 < ts.length) (hs : StoreAt w bs bl mem n) (hm : MapAt w B bm c) (hB : B ≤ w.heap.size) (hBx : B ≤ x) (h1 : x ≠ bb) (h2 : x ≠ bs) (h3 : x ≠ bl) (hrow : ∀ g, tv.ownBlock = some g → g ≠ x) :
    Calls Tryz.prog 75 #[.pointer (some ⟨x, 0, none⟩)] w fun r w' => r = .returned (.tuple #[]) ∧ ∃ pb pbi pgt, Blk w' x 133 (bsL bb v cp (.pointer (some ⟨pb, 0, none⟩)) ev ((BPc.puts).val x)) ∧
      PmAt w' pb pbi pgt bm bs bl (⟨.spare, ts.take 4, 0, 0, ⟨.popHead, 5, 0, 0, 0⟩⟩) ∧ w.heap.size ≤ pb ∧ w.heap.size ≤ pbi ∧ w.heap.size ≤ pgt ∧ pgt < w'.heap.size ∧ Chg (fun k => k = x) w w' := by
  obtain ⟨g, cap, rfl, hcap, _, hgl, hcell⟩ := own_addr own hpos
  have hgx : g ≠ x := hrow g rfl
  have x9 := hx.cell 9
  have f9 := hx.free 9
  have x0 := hx.cell 0
  have b1 := hb.cell 1
  simp only [List.getElem?_cons_zero, List.getElem?_cons_succ] at x9 x0 b1
  have hnx : ¬ x = bb := h1
  have hlen : (0 : Int) < ts.length := by omega
  go_enter Tryz.func75, Tryz.ntmps75
  go_wp2_with fail
  have hx1 : Blk (w.setCell ⟨x, 9, none⟩ .nilFunc) x 133 (bsL bb v cp pp ev .nilFunc) := hx.set' 9 _ rfl
  have hc1 : Chg (fun k => k = x) w (w.setCell ⟨x, 9, none⟩ .nilFunc) := (Chg.refl _ _).setCell _ _ (fun _ => rfl)
  have hb1 := hc1.blk hb (show ¬ bb = x from Ne.symm h1)
  have hs1 := hs.chg hc1 (show ¬ bs = x from Ne.symm h2) (show ¬ bl = x from Ne.symm h3)
  have hm1 := hm.below (hc1.toBelow hB (fun k hk e => by omega)) (Nat.le_refl _)
  have hcell1 : ∀ i u, (ts.map (Value.int .u64))[i]? = some u → (w.setCell ⟨x, 9, none⟩ .nilFunc).cell? ((⟨g, 0, none⟩ : Addr).add i) = some u := fun i u hi => by
    rw [Addr.add0]
    exact keepSet (hcell i u hi) (by simp <;> omega)
  generalize w.setCell ⟨x, 9, none⟩ .nilFunc = w1 at *
  clear x9 f9 hx hcell own x0 b1
  have x0 := hx1.cell 0
  have b0 := hb1.cell 0
  have b1 := hb1.cell 1
  simp only [List.getElem?_cons_zero, List.getElem?_cons_succ] at x0 b0 b1
  have z1 := hc1.size
  have P := packPut_any (ts := ts) (cap := cap) (ad := ⟨g, 0, none⟩) w1.drew hs1.drew hm1.drew hcap hcell1 (by show g < w1.heap.size; omega) hall hpos hle
  clear hcell1
  go_region_held3 (fun w' => w'.cell? ⟨x, 0, none⟩ = some (.pointer (some ⟨bb, 0, none⟩)) ∧ w'.cell? ⟨bb, 0, none⟩ = some (.pointer (some ⟨bm, 0, none⟩)) ∧ w'.cell? ⟨bb, 1, none⟩ = some (.slice (some ⟨g, 0, none⟩) ts.length cap))
    (first | exact ⟨x0, b0, b1⟩ | exact ⟨m0, n0, n1⟩ | exact ⟨keepSet m0 (by simp), keepSet n0 (by simp <;> omega), keepSet n1 (by simp <;> omega)⟩ | exact ⟨keepCell m0 (by simp), keepCell n0 (by simp <;> omega), keepCell n1 (by simp <;> omega)⟩)
    (first
     | (go_at_call 49; refine P.mono ?_; rintro r w6 ⟨pb, pbi, pgt, rfl, hp6, y1, y2, y3, y4, hk6⟩
        have hx6 := hk6.blk hx1.drew
        have hb6 := hk6.blk hb1.drew
        have m0 := hx6.cell 0
        have n0 := hb6.cell 0
        have n1 := hb6.cell 1
        have m3 := hx6.cell 3
        have fm3 := hx6.free 3
        simp only [List.getElem?_cons_zero, List.getElem?_cons_succ] at m0 n0 n1 m3))
  all_goals
    have hx7 : Blk (w6.setCell ⟨x, 3, none⟩ (.pointer (some ⟨pb, 0, none⟩))) x 133 (bsL bb v cp (.pointer (some ⟨pb, 0, none⟩)) ev .nilFunc) := hx6.set' 3 _ rfl
    have hc7 : Chg (fun k => k = x) w6 (w6.setCell ⟨x, 3, none⟩ (.pointer (some ⟨pb, 0, none⟩))) := (Chg.refl _ _).setCell _ _ (fun _ => rfl)
    have hk6' := hk6.size
    have xl := hx1.lt
    generalize w6.setCell ⟨x, 3, none⟩ (.pointer (some ⟨pb, 0, none⟩)) = w7 at *
    clear m0 n0 n1 m3 fm3
    have x9 := hx7.cell 9
    have f9 := hx7.free 9
    simp only [List.getElem?_cons_zero, List.getElem?_cons_succ] at x9
    go_wp2_with fail
    go_end0
    have hc8 : Chg (fun k => k = x) w7 (w7.setCell ⟨x, 9, none⟩ ((BPc.puts).val x)) := (Chg.refl _ _).setCell _ _ (fun _ => rfl)
    have hc9 := hc7.trans hc8
    have y1' : w1.heap.size ≤ pb := y1
    have y2' : w1.heap.size ≤ pbi := y2
    have y3' : w1.heap.size ≤ pgt := y3
    have z9 := hc9.size
    refine ⟨rfl, pb, pbi, pgt, hx7.set' 9 _ rfl, hp6.chg hc9 (by show ¬ pb = x; omega) (by show ¬ pbi = x; omega) (by show ¬ pgt = x; omega), by omega, by omega, by omega, Nat.lt_of_lt_of_le y4 z9, (hc1.trans ((Chg.refl _ _).drew.trans (Chg.ofBelow hk6))).trans hc9⟩

/-- There are none. -/
theorem bflush_none {x bb bm base : Nat} {tv : Value} {v : Int} {cp pp nx : Value} {ev : Ev} (w : World) (hx : Blk w x 133 (bsL bb v cp pp ev nx)) (hb : Blk w bb 129 [.pointer (some ⟨bm, 0, none⟩), tv])
    (own : w.ownsRow base 26 1 tv 0 []) (h1 : x ≠ bb) :
    Calls Tryz.prog 75 #[.pointer (some ⟨x, 0, none⟩)] w fun r w' => r = .returned (.tuple #[]) ∧ Blk w' x 133 (bsL bb v cp pp ev .nilFunc) ∧ Chg (fun k => k = x) w w' := by
  obtain ⟨ao, cap, rfl⟩ := own_slice own
  have x9 := hx.cell 9
  have f9 := hx.free 9
  have x0 := hx.cell 0
  have b1 := hb.cell 1
  simp only [List.getElem?_cons_zero, List.getElem?_cons_succ] at x9 x0 b1
  have hnx : ¬ x = bb := h1
  go_enter Tryz.func75, Tryz.ntmps75
  go_wp2_with fail
  have hx1 : Blk (w.setCell ⟨x, 9, none⟩ .nilFunc) x 133 (bsL bb v cp pp ev .nilFunc) := hx.set' 9 _ rfl
  have hc1 : Chg (fun k => k = x) w (w.setCell ⟨x, 9, none⟩ .nilFunc) := (Chg.refl _ _).setCell _ _ (fun _ => rfl)
  go_end0
  exact ⟨rfl, hx1, hc1⟩

end Go.Proofs.YtapdpclgbpgklaaGreat
