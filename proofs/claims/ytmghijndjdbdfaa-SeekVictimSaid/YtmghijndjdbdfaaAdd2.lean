/- A marker's task that is put somewhere: the machine is made: walked. -/
import Derived.Test.YtmghijndjdbdfaaAdd
import Derived.Test.YtmghijndjdbdfaaPackW
namespace Go.Proofs.Ytmghijndjdbdfaa
open Go.RowKit

/-- What add's machine does next. -/
inductive APc where
  | done | own | pool
deriving DecidableEq

def APc.val (b : Nat) : APc → Value
  | .done => .nilFunc
  | .own => .func (.func 39) #[.pointer (some ⟨b, 0, none⟩)] #[]
  | .pool => .func (.func 64) #[.pointer (some ⟨b, 0, none⟩)] #[]

/-- What it knows. -/
structure AM where
  pc : APc
  task : Int
  dq : DQ
  put : PM
  spilled : Bool

abbrev amL (bm : Nat) (task : Int) (pd pp : Value) (sp : Bool) (nx : Value) : List Value := [.pointer (some ⟨bm, 0, none⟩), .int .u64 task, pd, pp, .bool sp, nx]

set_option maxRecDepth 8000 in
theorem addNew_some {B bm : Nat} {c : Cfg} (i x : Int) (w : World) (hm : MapAt w B bm c) (hB : B ≤ w.heap.size) (hg : Good c) (_hi : 0 ≤ i ∧ i < c.mks) (hx : U x) (he : (endsOf c i).ok) (h0 : 0 ≤ pEnd c i 0) :
    Calls Try.prog 12 #[.pointer (some ⟨bm, 0, none⟩), .int .i64 i, .int .u64 x] w fun r w' => ∃ a b q1 q2, r = .returned (.pointer (some ⟨a, 0, none⟩)) ∧ Blk w' a 66 (amL bm x (.pointer (some ⟨b, 0, none⟩)) (.pointer none) false ((APc.own).val a)) ∧
      DqAt w' b q1 q2 (endsOf c i) ⟨.pushBottom, 0, 0, x, 0, false⟩ ∧ w.heap.size ≤ a ∧ a < b ∧ a < q1 ∧ a < q2 ∧ Kept w w' := by
  have hb := Blk.new w 66 (amL bm x (.pointer none) (.pointer none) false .nilFunc)
  have hk : Kept w (w.alloc (.cells (amL bm x (.pointer none) (.pointer none) false .nilFunc).toArray 66)) := (Below.refl _ _).alloc (Nat.le_refl _) _
  obtain ⟨tp, ht⟩ : ∃ tp : Int, pEnd c i 0 = tp := ⟨_, rfl⟩
  have HT : Hid (pEnd c i 0 = tp) := ht
  rw [ht] at h0
  clear ht
  go_enter Try.func12, Try.ntmps12
  go_wp2_with fail
  generalize hw1 : w.alloc (.cells (amL bm x (.pointer none) (.pointer none) false .nilFunc).toArray 66) = w1 at *
  have hz : w1.heap.size = w.heap.size + 1 := by rw [← hw1]; simp
  clear hw1
  have hm1 := hm.kept hk hB
  refine (mTop_k i w1 hm1 hg).mono ?_; rintro r w2 ⟨rfl, hk2⟩
  rw [HT.out]
  have hm2 := hm1.kept hk2 (by omega)
  have hb2 := hk2.blk hb
  have z2 := hk2.size
  go_wp2_with fail
  refine (ends_any i w2 hm2 (by omega) hg).mono ?_; rintro r w3 ⟨rfl, hk3⟩
  have hb3 := hk3.blk hb2
  have z3 := hk3.size
  go_wp2_with fail
  refine (push_deq (endsOf c i) x w3 he hx).mono ?_; rintro r w4 ⟨b, q1, q2, rfl, hd, y1, y2, y3, hk4⟩
  have hb4 := hk4.blk hb3
  have f2 := hb4.free 2
  have g2 := hb4.cell 2
  have f5 := hb4.free 5
  have g5 := hb4.cell 5
  simp only [List.getElem?_cons_zero, List.getElem?_cons_succ] at g2 g5
  go_wp2_with fail
  go_ret
  have hcb : Chg (fun k => k = w.heap.size) w4 ((w4.setCell ⟨w.heap.size, 2, none⟩ (.pointer (some ⟨b, 0, none⟩))).setCell ⟨w.heap.size, 5, none⟩ ((APc.own).val w.heap.size)) := ((Chg.refl (fun k => k = w.heap.size) w4).setCell ⟨w.heap.size, 2, none⟩ _ (fun _ => rfl)).setCell ⟨w.heap.size, 5, none⟩ _ (fun _ => rfl)
  obtain ⟨d1, d2, d3, d4, d5⟩ := hd
  refine ⟨w.heap.size, b, q1, q2, rfl, (hb4.set' 2 _ rfl).set' 5 _ rfl, ⟨d1, d2, d3, hcb.blk d4 (by show ¬ b = w.heap.size; omega), fun f e => ⟨hcb.blk (d5 f e).1 (by show ¬ q1 = w.heap.size; omega), hcb.blk (d5 f e).2 (by show ¬ q2 = w.heap.size; omega)⟩⟩, Nat.le_refl _, by omega, by omega, by omega, ?_⟩
  exact Below.setCell (Below.setCell (((hk.trans' hk2).trans' hk3).trans' hk4) (p := ⟨w.heap.size, 2, none⟩) (Nat.le_refl _) _) (p := ⟨w.heap.size, 5, none⟩) (Nat.le_refl _) _

end Go.Proofs.Ytmghijndjdbdfaa
