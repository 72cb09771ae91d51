/- A packet's machine is made: walked. -/
import Derived.Test.YtchlbdfapgeebaaPack3
namespace Go.Proofs.Ytchlbdfapgeebaa
open Go.RowKit

theorem pstepDone {b bi gt bm bs bl : Nat} {s : PM} (w : World) (sp : Value) (h : PmAt w b bi gt bm bs bl s) (hp : s.pc = .done) :
    Calls Try.prog 13 #[.pointer (some ⟨b, 0, none⟩), sp] w fun e w' => e = .returned (.bool true) ∧ w = w' := by
  obtain ⟨tv, iv, hb, _, _⟩ := h.ex
  rw [hp] at hb
  have g5 := hb.cell 5
  simp only [List.getElem?_cons_zero, List.getElem?_cons_succ] at g5
  have hn0 := func_eql0
  simp only [PPc.val] at g5
  go_enter Try.func13, Try.ntmps13
  go_wp2_with fail
  go_ret
  exact ⟨rfl, rfl⟩

theorem take_any {bm bs bl B : Nat} {c : Cfg} {mem : List Int} {n : Int} (w : World) (hs : StoreAt w bs bl mem n) (_hm : MapAt w B bm c) (g : Nat) (hgb : g < w.heap.size) (hg1 : g ≠ bs) (hg2 : g ≠ bl) :
    Calls Try.prog 12 #[.pointer (some ⟨bm, 0, none⟩)] w fun e w' => ∃ b bi, e = .returned (.pointer (some ⟨b, 0, none⟩)) ∧ PmAt w' b bi g bm bs bl ⟨.last, [], 0, 0, ⟨.popHead, 4, 0, 0, 0⟩⟩ ∧ w.heap.size ≤ b ∧ w.heap.size ≤ bi ∧ Kept w w' := by
  go_enter Try.func12, Try.ntmps12
  go_wp2_with fail
  have hb := Blk.new w 68 (pmL bm (.slice none 0 0) 0 0 (.pointer none) .nilFunc)
  have hk : Kept w (w.alloc (.cells (pmL bm (.slice none 0 0) 0 0 (.pointer none) .nilFunc).toArray 68)) := (Below.refl _ _).alloc (Nat.le_refl _) _
  generalize hw1 : w.alloc (.cells (pmL bm (.slice none 0 0) 0 0 (.pointer none) .nilFunc).toArray 68) = w1 at *
  have hz : w1.heap.size = w.heap.size + 1 := by rw [← hw1]; simp
  clear hw1
  refine (mPool_any bm w1).mono ?_; rintro e w2 ⟨rfl, rfl⟩
  go_wp2_with fail
  refine (pop_any w1).mono ?_; rintro e w3 ⟨rfl, hsm3, hsz3, hk3⟩
  have hb3 := hk3.blk hb
  have q4 := hb3.cell 4
  have f4 := hb3.free 4
  have q5 := hb3.cell 5
  have f5 := hb3.free 5
  simp only [List.getElem?_cons_zero, List.getElem?_cons_succ] at q4 q5
  go_wp2_with fail
  go_ret
  have l := hs.lt
  rw [hz] at hsm3
  have hcb : Chg (fun k => k = w.heap.size) w3 ((w3.setCell ⟨w.heap.size, 4, none⟩ (.pointer (some ⟨w.heap.size + 1, 0, none⟩))).setCell ⟨w.heap.size, 5, none⟩ ((PPc.last).val w.heap.size)) := ((Chg.refl (fun k => k = w.heap.size) w3).setCell ⟨w.heap.size, 4, none⟩ _ (fun _ => rfl)).setCell ⟨w.heap.size, 5, none⟩ _ (fun _ => rfl)
  exact ⟨w.heap.size, w.heap.size + 1, rfl, ⟨⟨by omega, by omega, by omega, by omega, by omega, by omega, by omega, hg1, hg2⟩, (fun x hx => by cases hx), ⟨by decide, by decide⟩, ⟨Int.le_refl 0, (by decide : (0 : Int) < 4294967296)⟩, _, _, (hb3.set' 4 _ rfl).set' 5 _ rfl, .inl ⟨rfl, rfl⟩, fun _ => ⟨rfl, hsm3.chg hcb (by show ¬ w.heap.size + 1 = w.heap.size; omega), rfl⟩⟩, Nat.le_refl _, by omega, Below.setCell (Below.setCell (hk.trans' hk3) (p := ⟨w.heap.size, 4, none⟩) (Nat.le_refl _) _) (p := ⟨w.heap.size, 5, none⟩) (Nat.le_refl _) _⟩

theorem back_yes {bm bs bl B : Nat} {c : Cfg} {mem : List Int} {n : Int} (p : Int) (w : World) (hg : Good c) (hs : StoreAt w bs bl mem n) (hm : MapAt w B bm c) (hB : B ≤ w.heap.size) (g : Nat) (hgb : g < w.heap.size) (hg1 : g ≠ bs) (hg2 : g ≠ bl) (h1 : 1 ≤ p) (h2 : p ≤ manyI c) :
    Calls Try.prog 9 #[.pointer (some ⟨bm, 0, none⟩), .int .i64 p] w fun e w' => ∃ b bi, e = .returned (.pointer (some ⟨b, 0, none⟩)) ∧ PmAt w' b bi g bm bs bl ⟨.last, [], 0, 0, ⟨.pushHead, 5, p, 0, 0⟩⟩ ∧ w.heap.size ≤ b ∧ w.heap.size ≤ bi ∧ Kept w w' := by
  have hpl := pack_place hg h1 h2 (j := 1) (by omega) (by omega)
  have hmb := manyI_bound hg
  obtain ⟨hpl0, _, _, _⟩ := hpl
  obtain ⟨_, hmb1⟩ := hmb
  obtain ⟨a, ha⟩ : ∃ a : Int, pPack c p 1 = a := ⟨_, rfl⟩
  have HA : Hid (pPack c p 1 = a) := ha
  have ha0 : 0 ≤ a := by omega
  have hp0 : 0 ≤ p := by omega
  have hp1 : p < 4294967296 := by omega
  clear ha hpl0
  go_enter Try.func9, Try.ntmps9
  go_wp2_with fail
  have hb := Blk.new w 68 (pmL bm (.slice none 0 0) 0 0 (.pointer none) .nilFunc)
  have hk : Kept w (w.alloc (.cells (pmL bm (.slice none 0 0) 0 0 (.pointer none) .nilFunc).toArray 68)) := (Below.refl _ _).alloc (Nat.le_refl _) _
  generalize hw1 : w.alloc (.cells (pmL bm (.slice none 0 0) 0 0 (.pointer none) .nilFunc).toArray 68) = w1 at *
  have hz : w1.heap.size = w.heap.size + 1 := by rw [← hw1]; simp
  clear hw1
  have hm1 := hm.kept hk hB
  refine (mLink_any p w1 hm1 hg).mono ?_; rintro e w2 ⟨rfl, rfl⟩
  rw [HA.out]
  go_wp2_with fail
  refine (mSpare_any bm w1).mono ?_; rintro e w2 ⟨rfl, rfl⟩
  go_wp2_with fail
  refine (push_any w1 hp0 hp1).mono ?_; rintro e w3 ⟨rfl, hsm3, hsz3, hk3⟩
  have hb3 := hk3.blk hb
  have q4 := hb3.cell 4
  have f4 := hb3.free 4
  have q5 := hb3.cell 5
  have f5 := hb3.free 5
  simp only [List.getElem?_cons_zero, List.getElem?_cons_succ] at q4 q5
  go_wp2_with fail
  go_ret
  have l := hs.lt
  rw [hz] at hsm3
  have hcb : Chg (fun k => k = w.heap.size) w3 ((w3.setCell ⟨w.heap.size, 4, none⟩ (.pointer (some ⟨w.heap.size + 1, 0, none⟩))).setCell ⟨w.heap.size, 5, none⟩ ((PPc.last).val w.heap.size)) := ((Chg.refl (fun k => k = w.heap.size) w3).setCell ⟨w.heap.size, 4, none⟩ _ (fun _ => rfl)).setCell ⟨w.heap.size, 5, none⟩ _ (fun _ => rfl)
  exact ⟨w.heap.size, w.heap.size + 1, rfl, ⟨⟨by omega, by omega, by omega, by omega, by omega, by omega, by omega, hg1, hg2⟩, (fun x hx => by cases hx), ⟨Nat.zero_le _, Nat.zero_le _⟩, ⟨Int.le_refl 0, (by decide : (0 : Int) < 4294967296)⟩, _, _, (hb3.set' 4 _ rfl).set' 5 _ rfl, .inl ⟨rfl, rfl⟩, fun _ => ⟨rfl, hsm3.chg hcb (by show ¬ w.heap.size + 1 = w.heap.size; omega), rfl⟩⟩, Nat.le_refl _, by omega, Below.setCell (Below.setCell (hk.trans' hk3) (p := ⟨w.heap.size, 4, none⟩) (Nat.le_refl _) _) (p := ⟨w.heap.size, 5, none⟩) (Nat.le_refl _) _⟩

end Go.Proofs.Ytchlbdfapgeebaa
