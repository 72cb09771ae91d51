/- A marker's task that is put somewhere: the deque's steps: walked. -/
import Derived.Test.YtmghijndjdbdfaaAdd2
namespace Go.Proofs.Ytmghijndjdbdfaa
open Go.RowKit

/-- The blocks that a step may change. -/
abbrev AmB (a b bs bl : Nat) : Nat → Prop := fun k => k = a ∨ DqB b bs bl k

theorem DqAt.chgB {w w' : World} {S : Nat → Prop} {b q1 q2 : Nat} {e : DEnds} {d : DQ} (h : DqAt w b q1 q2 e d) (k : Chg S w w') (hn : ¬ S b) (hp : d.pc.first = none) : DqAt w' b q1 q2 e d :=
  ⟨h.ap, h.ok, h.eok, k.blk h.blk hn, fun f e => by rw [hp] at e; cases e⟩

set_option maxRecDepth 8000 in
theorem own_more {a b q1 q2 bm bs bl : Nat} {x : Int} {pp : Value} {sp : Bool} {e : DEnds} {d : DQ} {mem : List Int} {n : Int} (w : World) (hA : Blk w a 66 (amL bm x (.pointer (some ⟨b, 0, none⟩)) pp sp ((APc.own).val a))) (hd : DqAt w b q1 q2 e d) (hs : StoreAt w bs bl mem n)
    (h1 : b ≠ bs) (h2 : b ≠ bl) (h3 : a ≠ b) (h4 : a ≠ bs) (h5 : a ≠ bl) (hp : d.pc.fin = false) (hf : (dqStep e mem d).2.pc.fin = false) :
    Calls Try.prog 39 #[.pointer (some ⟨a, 0, none⟩), .pointer (some ⟨bs, 0, none⟩)] w fun r w' => r = .returned (.tuple #[]) ∧ Blk w' a 66 (amL bm x (.pointer (some ⟨b, 0, none⟩)) pp sp ((APc.own).val a)) ∧ DqAt w' b q1 q2 e (dqStep e mem d).2 ∧ StoreAt w' bs bl (dqStep e mem d).1 (cnt n) ∧ Chg (AmB a b bs bl) w w' := by
  have D := dstep_any w hd hs h1 h2 hp
  rw [hf] at D
  generalize dqStep e mem d = rr at *
  have g2 := hA.cell 2
  simp only [List.getElem?_cons_zero, List.getElem?_cons_succ] at g2
  clear hf
  go_enter Try.func39, Try.ntmps39
  go_wp2_with fail
  refine D.mono ?_; rintro r w2 ⟨rfl, hd2, hs2, hc2⟩
  go_wp2_with fail
  refine bodyPost_ret (results_none rfl _ _ _) rfl ?_
  exact ⟨rfl, hc2.blk hA (fun e => by rcases e with e | e | e; exact h3 e; exact h4 e; exact h5 e), hd2, hs2, hc2.mono (fun _ _ e => .inr e)⟩

set_option maxRecDepth 8000 in
theorem own_done {a b q1 q2 bm bs bl : Nat} {x : Int} {pp : Value} {sp : Bool} {e : DEnds} {d : DQ} {mem : List Int} {n : Int} (w : World) (hA : Blk w a 66 (amL bm x (.pointer (some ⟨b, 0, none⟩)) pp sp ((APc.own).val a))) (hd : DqAt w b q1 q2 e d) (hs : StoreAt w bs bl mem n)
    (h1 : b ≠ bs) (h2 : b ≠ bl) (h3 : a ≠ b) (h4 : a ≠ bs) (h5 : a ≠ bl) (hp : d.pc.fin = false) (hf : (dqStep e mem d).2.pc = .done) (ho : (dqStep e mem d).2.out ≠ 2) :
    Calls Try.prog 39 #[.pointer (some ⟨a, 0, none⟩), .pointer (some ⟨bs, 0, none⟩)] w fun r w' => r = .returned (.tuple #[]) ∧ Blk w' a 66 (amL bm x (.pointer (some ⟨b, 0, none⟩)) pp sp .nilFunc) ∧ DqAt w' b q1 q2 e (dqStep e mem d).2 ∧ StoreAt w' bs bl (dqStep e mem d).1 (cnt n) ∧ Chg (AmB a b bs bl) w w' := by
  have D := dstep_any w hd hs h1 h2 hp
  rw [show (dqStep e mem d).2.pc.fin = true from by rw [hf]; rfl] at D
  generalize dqStep e mem d = rr at *
  have hob : (rr.2.out == 2) = false := by simpa using ho
  have HF : Hid (rr.2.pc = .done) := hf
  have g2 := hA.cell 2
  simp only [List.getElem?_cons_zero, List.getElem?_cons_succ] at g2
  clear hf ho
  go_enter Try.func39, Try.ntmps39
  go_wp2_with fail
  refine D.mono ?_; rintro r w2 ⟨rfl, hd2, hs2, hc2⟩
  have hA2 := hc2.blk hA (fun e => by rcases e with e | e | e; exact h3 e; exact h4 e; exact h5 e)
  have f5 := hA2.free 5
  have g5 := hA2.cell 5
  have q2' := hA2.cell 2
  simp only [List.getElem?_cons_zero, List.getElem?_cons_succ] at g5 q2'
  go_wp2_with fail
  have hcb : Chg (fun k => k = a) w2 (w2.setCell ⟨a, 5, none⟩ .nilFunc) := (Chg.refl (fun k => k = a) w2).setCell ⟨a, 5, none⟩ _ (fun _ => rfl)
  have hA3 := hA2.set' 5 .nilFunc (l' := amL bm x (.pointer (some ⟨b, 0, none⟩)) pp sp .nilFunc) rfl
  have hd3 := hd2.chgB hcb (by show ¬ b = a; omega) (by rw [HF.out]; rfl)
  have hs3 := hs2.chg hcb (by show ¬ bs = a; omega) (by show ¬ bl = a; omega)
  have hc3 := (hc2.mono (T := AmB a b bs bl) (fun _ _ e => .inr e)).trans (hcb.mono (fun _ _ e => .inl e))
  generalize w2.setCell ⟨a, 5, none⟩ .nilFunc = w3 at *
  clear f5 g5 q2'
  have q2' := hA3.cell 2
  simp only [List.getElem?_cons_zero, List.getElem?_cons_succ] at q2'
  go_wp2_with fail
  refine (dresult_any w3 hd3 HF.out).mono ?_; rintro r w4 ⟨rfl, hk4⟩
  go_wp2_with fail
  go_end0
  exact ⟨rfl, hk4.blk hA3, hd3.chgB (Chg.ofBelow (S := fun _ => False) hk4) id (by rw [HF.out]; rfl), hs3.kept hk4, hc3.trans (Chg.ofBelow hk4)⟩

end Go.Proofs.Ytmghijndjdbdfaa
