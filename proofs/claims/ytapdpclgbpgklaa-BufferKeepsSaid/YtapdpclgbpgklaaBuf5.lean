/- A buffer's tasks are read: walked. -/
import Derived.Test.YtapdpclgbpgklaaBuf4
import Derived.Test.YtapdpclgbpgklaaPackD
namespace Go.Proofs.Ytapdpclgbpgklaa
open Go.RowKit

theorem append_nothing2 (a : Addr) (ao : Option Addr) (cap : Nat) (W : World) : (Builtin.append_ #[35, 35] 35 #[.slice (some a) 0 0, .slice ao 0 cap]).run Try.prog W = .ok (.slice (some a) 0 0) W := by
  obtain ⟨i0, hi, hz0, hz1, hz2⟩ := info_parts info_u64
  have hf : (Builtin.firstCells i0.size 0 (.slice ao 0 cap)).run Try.prog W = .ok #[] W := by
    cases ao with
    | none => simp [Builtin.firstCells]
    | some a => exact run_firstCells_some W i0.size 0 a 0 cap [] (by simp) (by simp)
  simp [Builtin.append_, run_underlying Try.underlying35, sizeOf, typeInfo, zeroValue, hi, hz0, Builtin.lenOf, hf]
  rfl

set_option maxRecDepth 8000 in
/-- A copy of a row of the call's own. -/
theorem cloneOwn_any {base : Nat} {tv : Value} {ts : List Int} (w : World) (own : w.ownsRow base 45 1 tv ts.length (ts.map (Value.int .u64))) (hle : ts.length ≤ 20000) :
    Calls Try.prog 38 #[tv] w fun e w' => ∃ v, e = .returned v ∧ Row w' v (ts.map (Value.int .u64)) ∧ (ts ≠ [] → ∀ g, v.ownBlock = some g → w.heap.size ≤ g) ∧ Kept w w' := by
  by_cases hp : 0 < ts.length
  · refine (clone_any w (Row.ofOwn own) hp hle).mono ?_
    rintro e w' ⟨g, cap, rfl, own', hk⟩
    exact ⟨_, rfl, Row.ofOwn own', fun _ => fun g e => (ownsRow_base own' g e).1, hk⟩
  · obtain rfl : ts = [] := by
      cases ts with
      | nil => rfl
      | cons a l => simp at hp
    obtain ⟨ao, cap, rfl⟩ := own_slice own
    change Calls Try.prog 38 #[.slice ao 0 cap] w _
    have hN : ∀ W : World, Row W (.slice none 0 0) ([] : List Value) := fun W => ⟨⟨none, 0, rfl, by simp, fun i u hi => by simp at hi⟩⟩
    cases ao with
    | none =>
      have hnil : ∀ W, (binOp .eql 35 (.slice none 0 cap) (.slice none 0 0)).run Try.prog W = .ok (.bool true) W := fun _ => rfl
      go_enter Try.func38, Try.ntmps38
      go_wp2_with fail
      go_ret
      exact ⟨_, rfl, hN _, fun h => absurd rfl h, Below.refl _ _⟩
    | some a =>
      have hnil : ∀ W, (binOp .eql 35 (.slice (some a) 0 cap) (.slice none 0 0)).run Try.prog W = .ok (.bool false) W := fun _ => rfl
      have happ := fun b W => append_nothing2 ⟨b, 0, none⟩ (some a) cap W
      go_enter Try.func38, Try.ntmps38
      go_wp2_with fail
      go_ret
      exact ⟨_, rfl, ⟨⟨_, _, rfl, by simp, fun i u hi => by simp at hi⟩⟩, fun h => absurd rfl h, (Below.refl _ _).alloc (Nat.le_refl _) _⟩

theorem btasks_any {bb bm bs bl base : Nat} {ts : List Int} {O : Nat → Prop} (w : World) (h : BfAt w bb bm bs bl base ts O) (hle : ts.length ≤ 20000) :
    Calls Try.prog 18 #[.pointer (some ⟨bb, 0, none⟩)] w fun e w' => ∃ v, e = .returned v ∧ Row w' v (ts.map (Value.int .u64)) ∧ (ts ≠ [] → ∀ g, v.ownBlock = some g → w.heap.size ≤ g) ∧ Kept w w' := by
  obtain ⟨all, own, bin, bbase, tv, hb, hr, hgo⟩ := h
  have b1 := hb.cell 1
  simp only [List.getElem?_cons_zero, List.getElem?_cons_succ] at b1
  have C := cloneOwn_any w hr hle
  clear hr
  go_enter Try.func18, Try.ntmps18
  go_wp2_with fail
  refine C.mono ?_; rintro e w2 ⟨v, rfl, hrow, hbase, hk⟩
  obtain ⟨ao, cap, rfl, _⟩ := id hrow.ex
  have hrow2 : Row w2 (.slice ao ts.length cap) (ts.map (Value.int .u64)) := by simpa using hrow
  have HBS : Hid _ := hbase
  clear hrow hbase
  go_wp2_with fail
  go_ret
  exact ⟨_, rfl, hrow2, fun h g e => HBS.out h g (by simpa using e), hk⟩

end Go.Proofs.Ytapdpclgbpgklaa
