/- A marker's task that is put somewhere: the deque is full; the pool's steps: walked. -/
import Derived.Test.YtmghijndjdbdfaaAdd3
import Derived.Test.YtmghijndjdbdfaaAw11
namespace Go.Proofs.Ytmghijndjdbdfaa
open Go.RowKit

set_option maxRecDepth 8000 in
theorem pool_any {a b bi gt bm bs bl B : Nat} {c : Cfg} {x : Int} {pd : Value} {sp : Bool} {s : PM} {mem : List Int} {n : Int} (w : World) (hg : Good c) (hA : Blk w a 66 (amL bm x pd (.pointer (some ⟨b, 0, none⟩)) sp ((APc.pool).val a))) (h : PmAt w b bi gt bm bs bl s) (hs : StoreAt w bs bl mem n) (hm : MapAt w B bm c) (hlt : gt < w.heap.size) (hok : PmOk s)
    (h3 : a ≠ b) (h4 : a ≠ bs) (h5 : a ≠ bl) (h6 : a ≠ bi) (h7 : a ≠ gt) :
    Calls Try.prog 64 #[.pointer (some ⟨a, 0, none⟩), .pointer (some ⟨bs, 0, none⟩)] w fun r w' => r = .returned (.tuple #[]) ∧ Blk w' a 66 (amL bm x pd (.pointer (some ⟨b, 0, none⟩)) sp (if (pmStep c mem s).2.pc.fin then .nilFunc else (APc.pool).val a)) ∧
      (∃ bi', PmAt w' b bi' gt bm bs bl (pmStep c mem s).2 ∧ (bi' = bi ∨ w.heap.size ≤ bi')) ∧ StoreAt w' bs bl (pmStep c mem s).1 (cntIf s.pc.fin n) ∧ Chg (fun k => k = a ∨ PmB b bi bs bl k) w w' := by
  have D := pstep_all w hg h hs hm hlt hok
  generalize pmStep c mem s = rr at *
  have g3 := hA.cell 3
  simp only [List.getElem?_cons_zero, List.getElem?_cons_succ] at g3
  have hal := hA.lt
  cases hf : rr.2.pc.fin
  · rw [hf] at D
    simp only [Bool.false_eq_true, if_false]
    go_enter Try.func64, Try.ntmps64
    go_wp2_with fail
    refine D.mono ?_; rintro r w2 ⟨rfl, hp2, hs2, hc2⟩
    go_wp2_with fail
    go_end0
    exact ⟨rfl, hc2.blk hA (fun e => by rcases e with e | e | e | e; exact h3 e; exact h6 e; exact h4 e; exact h5 e), hp2, hs2, hc2.mono (fun _ _ e => .inr e)⟩
  · rw [hf] at D
    simp only [if_true]
    go_enter Try.func64, Try.ntmps64
    go_wp2_with fail
    refine D.mono ?_; rintro r w2 ⟨rfl, ⟨bi', hp2, hbi⟩, hs2, hc2⟩
    have hA2 := hc2.blk hA (fun e => by rcases e with e | e | e | e; exact h3 e; exact h6 e; exact h4 e; exact h5 e)
    have f5 := hA2.free 5
    have g5 := hA2.cell 5
    simp only [List.getElem?_cons_zero, List.getElem?_cons_succ] at g5
    have HB : Hid (bi' = bi ∨ w.heap.size ≤ bi') := hbi
    clear hbi
    go_wp2_with fail
    go_end0
    have hcb : Chg (fun k => k = a) w2 (w2.setCell ⟨a, 5, none⟩ .nilFunc) := (Chg.refl (fun k => k = a) w2).setCell ⟨a, 5, none⟩ _ (fun _ => rfl)
    exact ⟨rfl, hA2.set' 5 _ rfl, ⟨bi', hp2.chg hcb (by show ¬ b = a; omega) (by show ¬ bi' = a; have := HB.out; omega) (by show ¬ gt = a; omega), HB.out⟩, hs2.chg hcb (by show ¬ bs = a; omega) (by show ¬ bl = a; omega), (hc2.mono (T := fun k => k = a ∨ PmB b bi bs bl k) (fun _ _ e => .inr e)).trans (hcb.mono (fun _ _ e => .inl e))⟩

end Go.Proofs.Ytmghijndjdbdfaa
