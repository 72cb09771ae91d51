/- A push onto a deque, and a pop, are made: walked. -/
import Derived.Test.YtmghijndjdbdfaaDeq2
namespace Go.Proofs.Ytmghijndjdbdfaa
open Go.RowKit

theorem blk_new_at {w : World} {k : Nat} (t : TypeId) (l : List Value) (h : w.heap.size = k) : Blk (w.alloc (.cells l.toArray t)) k t l := by
  subst h; exact Blk.new _ _ _

set_option maxRecDepth 8000 in
theorem begunPush_any (e : DEnds) (x : Int) (w : World) (he : e.ok) (hx : U x) :
    Calls Try.prog 56 #[.agg #[.int .i64 e.tp, .int .i64 e.bt, .int .i64 e.en, .int .i64 e.rm], .int .u64 x, .func (.func 57) #[] #[]] w fun r w' => ∃ b q1 q2, r = .returned (.pointer (some ⟨b, 0, none⟩)) ∧ DqAt w' b q1 q2 e ⟨.pushBottom, 0, 0, x, 0, false⟩ ∧ w.heap.size ≤ b ∧ w.heap.size ≤ q1 ∧ w.heap.size ≤ q2 ∧ Kept w w' := by
  go_enter Try.func56, Try.ntmps56
  go_wp2_with fail
  go_ret
  refine ⟨w.heap.size + 1 + 1, w.heap.size + 1, w.heap.size + 1 + 1 + 1, rfl, ⟨⟨by omega, by omega⟩, ⟨by show U 0; unfold U; omega, by show U 0; unfold U; omega, hx⟩, he, ?_, fun f hf => ?_⟩, by omega, by omega, by omega, ?_⟩
  · exact (blk_new_at _ _ (by simp)).alloc _
  · obtain rfl := Option.some.inj hf
    exact ⟨((blk_new_at _ _ (by simp)).alloc _).alloc _, blk_new_at _ _ (by simp)⟩
  · exact (((((Below.refl w.heap.size w).alloc (Nat.le_refl _) _).alloc (by simp) _).alloc (by simp; omega) _).alloc (by simp; omega) _)

theorem push_deq (e : DEnds) (x : Int) (w : World) (he : e.ok) (hx : U x) :
    Calls Try.prog 37 #[.agg #[.int .i64 e.tp, .int .i64 e.bt, .int .i64 e.en, .int .i64 e.rm], .int .u64 x] w fun r w' => ∃ b q1 q2, r = .returned (.pointer (some ⟨b, 0, none⟩)) ∧ DqAt w' b q1 q2 e ⟨.pushBottom, 0, 0, x, 0, false⟩ ∧ w.heap.size ≤ b ∧ w.heap.size ≤ q1 ∧ w.heap.size ≤ q2 ∧ Kept w w' := by
  go_enter Try.func37, Try.ntmps37
  go_wp2_with fail
  refine (begunPush_any e x _ he hx).mono ?_; rintro r w2 ⟨b, q1, q2, rfl, hd, h1, h2, h3, hk⟩
  go_wp2_with fail
  go_ret
  have hk0 : Kept w (w.alloc (.cells #[.int .i64 e.tp, .int .i64 e.bt, .int .i64 e.en, .int .i64 e.rm] 69)) := (Below.refl _ _).alloc (Nat.le_refl _) _
  have hz := hk0.size
  exact ⟨b, q1, q2, rfl, hd, by omega, by omega, by omega, hk0.trans' hk⟩

set_option maxRecDepth 8000 in
theorem begunPop_any (e : DEnds) (w : World) (he : e.ok) :
    Calls Try.prog 56 #[.agg #[.int .i64 e.tp, .int .i64 e.bt, .int .i64 e.en, .int .i64 e.rm], .int .u64 0, .func (.func 75) #[] #[]] w fun r w' => ∃ b q1 q2, r = .returned (.pointer (some ⟨b, 0, none⟩)) ∧ DqAt w' b q1 q2 e ⟨.popBottom, 0, 0, 0, 0, false⟩ ∧ w.heap.size ≤ b ∧ w.heap.size ≤ q1 ∧ w.heap.size ≤ q2 ∧ Kept w w' := by
  go_enter Try.func56, Try.ntmps56
  go_wp2_with fail
  go_ret
  refine ⟨w.heap.size + 1 + 1, w.heap.size + 1, w.heap.size + 1 + 1 + 1, rfl, ⟨⟨by omega, by omega⟩, ⟨by show U 0; unfold U; omega, by show U 0; unfold U; omega, by show U 0; unfold U; omega⟩, he, ?_, fun f hf => ?_⟩, by omega, by omega, by omega, ?_⟩
  · exact (blk_new_at _ _ (by simp)).alloc _
  · obtain rfl := Option.some.inj hf
    exact ⟨((blk_new_at _ _ (by simp)).alloc _).alloc _, blk_new_at _ _ (by simp)⟩
  · exact (((((Below.refl w.heap.size w).alloc (Nat.le_refl _) _).alloc (by simp) _).alloc (by simp; omega) _).alloc (by simp; omega) _)

theorem pop_deq (e : DEnds) (w : World) (he : e.ok) :
    Calls Try.prog 65 #[.agg #[.int .i64 e.tp, .int .i64 e.bt, .int .i64 e.en, .int .i64 e.rm]] w fun r w' => ∃ b q1 q2, r = .returned (.pointer (some ⟨b, 0, none⟩)) ∧ DqAt w' b q1 q2 e ⟨.popBottom, 0, 0, 0, 0, false⟩ ∧ w.heap.size ≤ b ∧ w.heap.size ≤ q1 ∧ w.heap.size ≤ q2 ∧ Kept w w' := by
  go_enter Try.func65, Try.ntmps65
  go_wp2_with fail
  refine (begunPop_any e _ he).mono ?_; rintro r w2 ⟨b, q1, q2, rfl, hd, h1, h2, h3, hk⟩
  go_wp2_with fail
  go_ret
  have hk0 : Kept w (w.alloc (.cells #[.int .i64 e.tp, .int .i64 e.bt, .int .i64 e.en, .int .i64 e.rm] 69)) := (Below.refl _ _).alloc (Nat.le_refl _) _
  have hz := hk0.size
  exact ⟨b, q1, q2, rfl, hd, by omega, by omega, by omega, hk0.trans' hk⟩

end Go.Proofs.Ytmghijndjdbdfaa
