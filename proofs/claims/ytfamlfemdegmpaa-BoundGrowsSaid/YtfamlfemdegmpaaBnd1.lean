/- Sizes and ranges, walked: what each function answers. -/
import Derived.Test.YtfamlfemdegmpaaRows
import Derived.Test.YtfamlfemdegmpaaMem
import Derived.Deep.LoopGhost
namespace Go.Proofs.Ytfamlfemdegmpaa
open Go.RowKit

/-- How many slots a class has. -/
def slotsI (k : Int) : Int := if k = 0 then 1 else if k = 1 then 2 else if k = 2 then 4 else if k = 3 then 8 else if k = 4 then 16 else 0

def clampI (lo n hi : Int) : Int := min (max lo n) hi

theorem is_any (n : Int) (w : World) :
    Calls Try.prog 36 #[.int .i64 n] w fun e w' => e = .returned (.bool (decide (0 ≤ n) && decide (n < 5))) ∧ w = w' := by
  go_enter Try.func36, Try.ntmps36
  go_wp2
  all_goals go_ret
  · exact ⟨by simp [*], rfl⟩
  · exact ⟨ret_bool (by simp; intro; omega), rfl⟩

theorem bound_any (n : Int) (w : World) :
    Calls Try.prog 37 #[.int .i64 n] w fun e w' => e = .returned (.int .i64 (clampI 0 n 12)) ∧ w = w' := by
  go_enter Try.func37, Try.ntmps37
  go_wp2
  all_goals go_ret
  all_goals exact ⟨ret_int (by unfold clampI; split at * <;> omega), rfl⟩

theorem slots_no (n : Int) (w : World) (h : ¬ (0 ≤ n ∧ n < 5)) :
    Calls Try.prog 28 #[.int .i64 n] w fun e w' => e = .returned (.int .i64 0) ∧ w = w' := by
  have hb : (decide (0 ≤ n) && decide (n < 5)) = false := by
    rw [Bool.and_eq_false_iff]; simp; omega
  go_enter Try.func28, Try.ntmps28
  go_wp2_with (go_at_call 36; refine (is_any _ _).mono ?_; rintro e w' ⟨rfl, rfl⟩; rw [hb])
  go_ret
  exact ⟨rfl, rfl⟩

theorem slots_yes (n : Int) (w : World) (h0 : 0 ≤ n) (h1 : n < 5) :
    Calls Try.prog 28 #[.int .i64 n] w fun e w' => e = .returned (.int .i64 (slotsI n)) ∧ w = w' := by
  have : n = 0 ∨ n = 1 ∨ n = 2 ∨ n = 3 ∨ n = 4 := by omega
  rcases this with rfl | rfl | rfl | rfl | rfl
  all_goals
    go_enter Try.func28, Try.ntmps28
    go_wp2
    go_ret
    exact ⟨rfl, rfl⟩

theorem slots_any (n : Int) (w : World) :
    Calls Try.prog 28 #[.int .i64 n] w fun e w' => e = .returned (.int .i64 (slotsI n)) ∧ w = w' := by
  by_cases h : 0 ≤ n ∧ n < 5
  · exact slots_yes n w h.1 h.2
  · have : slotsI n = 0 := by unfold slotsI; repeat (rw [if_neg (by omega)])
    rw [this]; exact slots_no n w h

theorem clamp_any (lo n hi : Int) (w : World) :
    Calls Try.prog 39 #[.int .i64 lo, .int .i64 n, .int .i64 hi] w fun e w' => e = .returned (.int .i64 (clampI lo n hi)) ∧ w = w' := by
  go_enter Try.func39, Try.ntmps39
  go_wp2
  all_goals go_ret
  all_goals exact ⟨ret_int (by unfold clampI; split at * <;> omega), rfl⟩

/-- A piece: its end, how many slots there are. -/
def sI (s : Int) : Int := clampI 0 s 1000
def fI (s f : Int) : Int := clampI 0 f (sI s)
def tI (s f c : Int) : Int := clampI 0 (fI s f + clampI 1 c 1000) (sI s)

theorem next_any (s f c : Int) (w : World) :
    Calls Try.prog 38 #[.int .i64 s, .int .i64 f, .int .i64 c] w fun e w' =>
      e = .returned (.tuple #[.agg #[.int .i64 (fI s f), .int .i64 (tI s f c)], .bool (decide (tI s f c < sI s))]) ∧ Kept w w' := by
  have b1 : 0 ≤ clampI 0 s 1000 ∧ clampI 0 s 1000 ≤ 1000 := by unfold clampI; omega
  have b2 : 0 ≤ clampI 0 f (clampI 0 s 1000) ∧ clampI 0 f (clampI 0 s 1000) ≤ 1000 := by unfold clampI; omega
  have b3 : 1 ≤ clampI 1 c 1000 ∧ clampI 1 c 1000 ≤ 1000 := by unfold clampI; omega
  obtain ⟨b1, b1'⟩ := b1
  obtain ⟨b2, b2'⟩ := b2
  obtain ⟨b3, b3'⟩ := b3
  go_enter Try.func38, Try.ntmps38
  go_wp2_with fail
  refine (clamp_any _ _ _ _).mono ?_; rintro e w' ⟨rfl, rfl⟩
  go_wp2_with fail
  refine (clamp_any _ _ _ _).mono ?_; rintro e w' ⟨rfl, rfl⟩
  go_wp2_with fail
  refine (clamp_any _ _ _ _).mono ?_; rintro e w' ⟨rfl, rfl⟩
  go_wp2_with fail
  refine (clamp_any _ _ _ _).mono ?_; rintro e w' ⟨rfl, rfl⟩
  go_wp2_with fail
  exact bodyPost_ret (v := .tuple #[.agg #[.int .i64 (fI s f), .int .i64 (tI s f c)], .bool (decide (tI s f c < sI s))]) (by simp [results, Try.results38, go_sem, fI, tI, sI]; rfl) rfl ⟨rfl, (Below.refl _ _).alloc (Nat.le_refl _) _⟩


/-- How many pieces: the loop's own count. -/
def countI (s c : Int) : Int := if sI s = 0 then 1 else (sI s + clampI 1 c 1000 - 1) / clampI 1 c 1000

theorem tell_any (x y : Int) (b : Nat) (n : Int) (w : World) (hb : Blk w b 3 [.int .i64 n]) (h0 : 0 ≤ n) (h1 : n ≤ 100000) :
    Calls Try.prog 35 #[.agg #[.int .i64 x, .int .i64 y], .pointer (some ⟨b, 0, none⟩)] w fun e w' =>
      e = .returned (.tuple #[]) ∧ Blk w' b 3 [.int .i64 (n + 1)] ∧ Chg (· = b) w w' := by
  have c0 := hb.cell 0
  have f0 := hb.free 0
  have hlt := hb.lt
  go_enter Try.func35, Try.ntmps35
  go_wp2
  go_end0
  refine ⟨rfl, ?_, ?_⟩
  · (first | assumption | exact Blk.new _ _ _ | (unfold Blk at *; (repeat (first | rw [heap_alloc_get, if_neg (by first | omega | (simp; omega))] | rw [heap_set_get, if_pos rfl] | rw [heap_set_get, if_neg (by first | omega | (simp; omega))] | rw [heap_alloc_get, if_pos (by first | rfl | simp)] | rw [heap_drew_get])); first | assumption | rfl | (simp only [*, Option.map_some]; rfl)))
  · (repeat (first | exact Chg.refl _ _ | refine Chg.alloc ?_ _ | refine Chg.drew ?_ | (refine Chg.setCell ?_ _ _ (by first | (intro _; rfl) | (intro hx; simp at hx; omega) | (intro hx; simp at hx ⊢; omega))))) 

/-- The k-th piece of S slots by C. -/
def AtPiece (S C : Int) (k : Nat) (f t : Int) : Prop := 1 ≤ k ∧ 0 ≤ S ∧ S ≤ 1000 ∧ 1 ≤ C ∧ C ≤ 1000 ∧ 0 ≤ f ∧ f ≤ t ∧ t = min ((k : Int) * C) S ∧ (((k : Int) - 1) * C < S ∨ (S = 0 ∧ k = 1))

theorem atPiece_start {S C : Int} (h0 : 0 ≤ S) (h1 : S ≤ 1000) (h2 : 1 ≤ C) (h3 : C ≤ 1000) : AtPiece S C 1 0 (min C S) := by
  unfold AtPiece; refine ⟨by omega, h0, h1, h2, h3, by omega, by omega, by simp, ?_⟩
  simp; omega

theorem atPiece_next {S C : Int} {k : Nat} {f t : Int} (h : AtPiece S C k f t) (ht : t < S) : AtPiece S C (k + 1) t (min (t + C) S) := by
  obtain ⟨a, b, c, d, e, f1, f2, rfl, g⟩ := h
  have e1 : ((k + 1 : Nat) : Int) * C = (k : Int) * C + C := by push_cast; rw [Int.add_mul, Int.one_mul]
  have e2 : (((k + 1 : Nat) : Int) - 1) * C = (k : Int) * C := by congr 1; push_cast; omega
  unfold AtPiece
  rw [e1, e2]
  generalize hm : (k : Int) * C = m at *
  refine ⟨by omega, b, c, d, e, by omega, by omega, by omega, by omega⟩

theorem atPiece_bound {S C : Int} {k : Nat} {f t : Int} (h : AtPiece S C k f t) : (k : Int) ≤ S + 1 ∧ 0 ≤ t ∧ t ≤ S ∧ 0 ≤ f ∧ f ≤ t ∧ (t < S → 1 ≤ t) := by
  obtain ⟨a, b, c, d, e, f1, f2, rfl, g⟩ := h
  have h1 : (k : Int) - 1 ≤ ((k : Int) - 1) * C := by have := Int.mul_le_mul_of_nonneg_left d (show 0 ≤ (k : Int) - 1 by omega); omega
  have h2 : (k : Int) ≤ (k : Int) * C := by have := Int.mul_le_mul_of_nonneg_left d (show 0 ≤ (k : Int) by omega); omega
  generalize (k : Int) * C = m at *
  generalize ((k : Int) - 1) * C = m' at *
  refine ⟨by omega, by omega, by omega, by omega, by omega, by omega⟩

theorem atPiece_end {s c : Int} {k : Nat} {f t : Int} (h : AtPiece (sI s) (clampI 1 c 1000) k f t) (ht : ¬ t < sI s) : countI s c = k := by
  unfold countI
  generalize sI s = S at *
  generalize clampI 1 c 1000 = C at *
  obtain ⟨a, b, c, d, e, f1, f2, rfl, g⟩ := h
  split
  · next h0 =>
    subst h0
    rcases g with g | g
    · have : 0 ≤ ((k : Int) - 1) * C := Int.mul_nonneg (by omega) (by omega)
      omega
    · rw [g.2]; rfl
  · next h0 =>
    have hd : (S + C - 1) / C = k := by
      have e2 : ((k : Int) - 1) * C = (k : Int) * C - C := by rw [Int.sub_mul, Int.one_mul]
      rw [e2] at g
      have hlo : (k : Int) * C ≤ S + C - 1 := by omega
      have hhi : S + C - 1 < ((k : Int) + 1) * C := by rw [Int.add_mul, Int.one_mul]; omega
      have p1 := (Int.le_ediv_iff_mul_le (by omega : 0 < C)).2 hlo
      have p2 := (Int.ediv_lt_iff_lt_mul (by omega : 0 < C)).2 hhi
      omega
    exact hd

theorem fI_self {C : Int} {k : Nat} {s f t : Int} (h : AtPiece (sI s) C k f t) : fI s t = t := by
  have := atPiece_bound h
  unfold fI clampI; omega

theorem tI_self {k : Nat} {s c f t : Int} (h : AtPiece (sI s) (clampI 1 c 1000) k f t) : tI s t c = min (t + clampI 1 c 1000) (sI s) := by
  have := atPiece_bound h
  have h2 := h.2.2.2.1
  unfold tI
  rw [fI_self h]
  generalize clampI 1 c 1000 = C at *
  unfold clampI; omega

theorem each_any (s c : Int) (b : Nat) (w : World) (hb : Blk w b 3 [.int .i64 0]) :
    Calls Try.prog 34 #[.int .i64 s, .int .i64 c, .func (.func 35) #[] #[.pointer (some ⟨b, 0, none⟩)]] w fun e w' =>
      e = .returned (.tuple #[]) ∧ Blk w' b 3 [.int .i64 (countI s c)] ∧ Chg (· = b) w w' := by
  have hlt := hb.lt
  go_enter Try.func34, Try.ntmps34
  go_wp2_with fail
  refine (next_any _ _ _ _).mono ?_; rintro e w1 ⟨rfl, hk⟩
  have hb' := hk.blk hb
  have hs := hk.size
  go_wp2_with fail
  refine (tell_any _ _ b 0 _ (hb'.alloc _) (by omega) (by omega)).mono ?_; rintro e w2 ⟨rfl, hb2, hc2⟩
  have hp2 : Blk w2 w1.heap.size 49 [.int .i64 (fI s 0), .int .i64 (tI s 0 c)] := hc2.blk (Blk.new w1 _ _) (by omega)
  go_wp2_with fail
  have hw2 : Chg (· = b) w w2 := ((Chg.ofBelow hk).alloc _).trans hc2
  have hpb : w.heap.size ≤ w1.heap.size := hs
  have st : AtPiece (sI s) (clampI 1 c 1000) 1 (fI s 0) (tI s 0 c) := by
    have hS : 0 ≤ sI s ∧ sI s ≤ 1000 := by unfold sI clampI; omega
    have hC : 1 ≤ clampI 1 c 1000 ∧ clampI 1 c 1000 ≤ 1000 := by unfold clampI; omega
    have h1 : fI s 0 = 0 := by unfold fI; generalize sI s = S at *; unfold clampI; omega
    have h2 : tI s 0 c = min (clampI 1 c 1000) (sI s) := by
      unfold tI; rw [h1]; generalize sI s = S at *; generalize clampI 1 c 1000 = C at *; unfold clampI; omega
    rw [h1, h2]; exact atPiece_start hS.1 hS.2 hC.1 hC.2
  clear hb hb' hc2 hk
  generalize w1.heap.size = q at *
  generalize fI s 0 = f0 at *
  generalize tI s 0 c = t0 at *
  go_loopg [7] (sI s - t0).toNat (fun g mo wr => ∃ (k : Nat) (f t : Int), g = (sI s - t).toNat ∧ AtPiece (sI s) (clampI 1 c 1000) k f t ∧ mo = .bool (decide (t < sI s)) ∧
      Blk wr b 3 [.int .i64 k] ∧ Blk wr q 49 [.int .i64 f, .int .i64 t] ∧ Chg (· = b) w wr)
  case atStart => exact ⟨1, f0, t0, rfl, st, rfl, hb2, hp2, hw2⟩
  case round =>
    obtain ⟨k, f, t, rfl, hat, rfl, hbk, hpk, hch⟩ := hrel
    have bd := atPiece_bound hat
    obtain ⟨bd1, bd2, bd3, bd4, bd5, bd6⟩ := bd
    have c0 := hpk.cell 0
    have c1 := hpk.cell 1
    by_cases hlt2 : t < sI s
    · have hpos := bd6 hlt2
      have hS : sI s ≤ 1000 := hat.2.2.1
      go_wp2_with fail
      refine (next_any _ _ _ _).mono ?_; rintro e w3 ⟨rfl, hk3⟩
      have hb3 := hk3.blk hbk
      have hp3 := hk3.blk hpk
      have f3 := hp3.free
      have d0 := hp3.cell 0
      have d1 := hp3.cell 1
      go_wp2_with fail
      refine (tell_any _ _ b k _ (by (first | assumption | exact Blk.new _ _ _ | (unfold Blk at *; (repeat (first | rw [heap_alloc_get, if_neg (by first | omega | (simp; omega))] | rw [heap_set_get, if_pos rfl] | rw [heap_set_get, if_neg (by first | omega | (simp; omega))] | rw [heap_alloc_get, if_pos (by first | rfl | simp)] | rw [heap_drew_get])); first | assumption | rfl | (simp only [*, Option.map_some]; rfl)))) (by omega) (by omega)).mono ?_; rintro e w4 ⟨rfl, hb4, hc4⟩
      have nx := atPiece_next hat hlt2
      have e1 := tI_self hat
      have e2 := fI_self hat
      have b4 : q < w3.heap.size := hp3.lt
      have hp4 : Blk w4 q 49 [.int .i64 t, .int .i64 (min (t + clampI 1 c 1000) (sI s))] := by
        have : Blk (w3.setCell ⟨q, 0, none⟩ (.int .i64 (fI s t)) |>.setCell ⟨q, 1, none⟩ (.int .i64 (tI s t c))) q 49 [.int .i64 t, .int .i64 (min (t + clampI 1 c 1000) (sI s))] := by
          rw [e1, e2]; (first | assumption | exact Blk.new _ _ _ | (unfold Blk at *; (repeat (first | rw [heap_alloc_get, if_neg (by first | omega | (simp; omega))] | rw [heap_set_get, if_pos rfl] | rw [heap_set_get, if_neg (by first | omega | (simp; omega))] | rw [heap_alloc_get, if_pos (by first | rfl | simp)] | rw [heap_drew_get])); first | assumption | rfl | (simp only [*, Option.map_some]; rfl)))
        exact hc4.blk this (by omega)
      go_wp2_with fail
      go_roundg (sI s - min (t + clampI 1 c 1000) (sI s)).toNat
      case measure =>
        have := hat.2.2.2.1
        omega
      case rel =>
        refine ⟨k + 1, t, _, rfl, nx, by first | rfl | rw [e1], by simpa using hb4, hp4, ?_⟩
        exact (((hch.trans (Chg.ofBelow hk3)).setCell _ _ (fun h => by simp at h; omega)).setCell _ _ (fun h => by simp at h; omega)).trans hc4
    · go_wp2_with fail
      go_end0
      refine ⟨rfl, ?_, hch⟩
      rw [atPiece_end hat (by omega)]; exact hbk

theorem count_any (s c : Int) (w : World) :
    Calls Try.prog 27 #[.int .i64 s, .int .i64 c] w fun e w' => e = .returned (.int .i64 (countI s c)) ∧ Kept w w' := by
  go_enter Try.func27, Try.ntmps27
  go_wp2_with fail
  refine (each_any _ _ _ _ (Blk.new w _ _)).mono ?_; rintro e w1 ⟨rfl, hb, hc⟩
  have c0 := hb.cell 0
  go_wp2_with fail
  go_ret
  exact ⟨rfl, ((Chg.refl (· = w.heap.size) w).alloc _ |>.trans hc).toBelow (Nat.le_refl _) (by intro k h; omega)⟩

end Go.Proofs.Ytfamlfemdegmpaa
