/- A packet's machine: its first part: walked. -/
import Derived.Test.YtchlbdfapgeebaaPack
namespace Go.Proofs.Ytchlbdfapgeebaa
open Go.RowKit

/-- The step of the stack of spare ones. -/
def pmSpare (c : Cfg) (mem : List Int) (s : PM) : List Int × PM :=
  ((smStep (lnk c) mem s.x).1,
    if (smStep (lnk c) mem s.x).2.pc.fin then
      if (smStep (lnk c) mem s.x).2.item = 0 then { s with pc := .spare, p := 0, x := ⟨.popHead, 5, 0, 0, 0⟩ }
      else { s with pc := .fill, p := (smStep (lnk c) mem s.x).2.item, x := (smStep (lnk c) mem s.x).2 }
    else { s with x := (smStep (lnk c) mem s.x).2 })

theorem SmAt.chg {w w' : World} {S : Nat → Prop} {b bm : Nat} {fl : FuncId} {s : SM} (h : SmAt w b fl bm s) (k : Chg S w w') (hn : ¬ S b) : SmAt w' b fl bm s := by
  obtain ⟨ok, t, hb⟩ := h
  exact ⟨ok, t, k.blk hb hn⟩

theorem spare_does {b bi gt bm bs bl B : Nat} {c : Cfg} {s : PM} {mem : List Int} {n : Int} (w : World) (hg : Good c) (h : PmAt w b bi gt bm bs bl s) (hs : StoreAt w bs bl mem n) (hm : MapAt w B bm c) (hp : s.pc = .spare) (hlt : gt < w.heap.size) :
    Calls Try.prog 40 #[.pointer (some ⟨b, 0, none⟩), .pointer (some ⟨bs, 0, none⟩)] w fun e w' => e = .returned (.tuple #[]) ∧
      (∃ bi', PmAt w' b bi' gt bm bs bl (pmSpare c mem s).2 ∧ (bi' = bi ∨ w.heap.size ≤ bi')) ∧ StoreAt w' bs bl (pmSpare c mem s).1 (cnt n) ∧ Chg (PmB b bi bs bl) w w' := by
  obtain ⟨ap, hall, hlen, hrng, tv, iv, hb, ht, hin⟩ := h
  obtain ⟨rfl, hsm, hx⟩ := hin (by rw [hp]; trivial)
  obtain ⟨a1, a2, a3, a4, a5, a6, a7, a8, a9⟩ := id ap
  have g4 := hb.cell 4
  simp only [List.getElem?_cons_zero, List.getElem?_cons_succ] at g4
  unfold pmSpare
  have D := through_any w hg a4 a5 hsm hs hm hx
  generalize smStep (lnk c) mem s.x = r at *
  obtain ⟨mem2, x2⟩ := r
  have hns : ¬ StB bi bs bl b := fun e => e.elim a1 (fun e => e.elim a2 a3)
  have hnt : ¬ StB bi bs bl gt := fun e => e.elim a7 (fun e => e.elim a8 a9)
  cases hf : x2.pc.fin
  · simp only [Bool.false_eq_true, if_false]
    simp only [hf] at D
    go_enter Try.func40, Try.ntmps40
    go_wp2_with fail
    refine D.mono ?_; rintro e w2 ⟨rfl, hsm2, hs2, hc2⟩
    go_wp2_with fail
    refine bodyPost_ret (results_none rfl _ _ _) rfl ?_
    exact ⟨rfl, ⟨bi, ⟨ap, hall, hlen, hrng, tv, _, hc2.blk hb hns, ht.chg hc2 hnt, fun _ => ⟨rfl, hsm2, hf⟩⟩, .inl rfl⟩, hs2, hc2.pmB⟩
  · simp only [if_true]
    simp only [hf] at D
    by_cases hz : x2.item = 0
    · rw [if_pos hz]
      have HZ : Hid (x2.item = 0) := hz
      clear hz
      go_enter Try.func40, Try.ntmps40
      go_wp2_with fail
      refine D.mono ?_; rintro e w2 ⟨rfl, hsm2, hs2, hc2⟩
      have hb2 := hc2.blk hb hns
      have k4 := hb2.cell 4
      have k3 := hb2.cell 3
      have f3 := hb2.free 3
      have k5 := hb2.cell 5
      have f5 := hb2.free 5
      simp only [List.getElem?_cons_zero, List.getElem?_cons_succ] at k4 k3 k5
      go_wp2_with fail
      refine (item_any w2 hsm2).mono ?_; rintro e w3 ⟨rfl, rfl⟩
      rw [hf]
      simp only [if_true]
      rw [HZ.out]
      go_wp2_with fail
      have hcb : Chg (fun k => k = b) w2 ((w2.setCell ⟨b, 3, none⟩ (.int .i64 0)).setCell ⟨b, 5, none⟩ ((PPc.fill).val b)) := ((Chg.refl (fun k => k = b) w2).setCell ⟨b, 3, none⟩ _ (fun _ => rfl)).setCell ⟨b, 5, none⟩ _ (fun _ => rfl)
      have hb3 : Blk ((w2.setCell ⟨b, 3, none⟩ (.int .i64 0)).setCell ⟨b, 5, none⟩ ((PPc.fill).val b)) b 68 (pmL bm tv s.j 0 (.pointer (some ⟨bi, 0, none⟩)) ((PPc.fill).val b)) := (hb2.set' 3 _ rfl).set' 5 _ rfl
      have hs3 := hs2.chg hcb (Ne.symm a2) (Ne.symm a3)
      have ht3 := (ht.chg hc2 hnt).chg hcb a6
      have hc3 := (hc2.pmB (b := b)).trans (hcb.mono (fun _ _ e => .inl e))
      simp only [PPc.val] at hb3 hs3 ht3 hc3 hcb
      generalize ((w2.setCell ⟨b, 3, none⟩ (.int .i64 0)).setCell ⟨b, 5, none⟩ (.func (.func 56) #[.pointer (some ⟨b, 0, none⟩)] #[])) = w4 at *
      clear k4 k3 f3 k5 f5
      have k0 := hb3.cell 0
      simp only [List.getElem?_cons_zero] at k0
      go_region_held3 (fun w' => w'.cell? ⟨b, 0, none⟩ = some (.pointer (some ⟨bm, 0, none⟩)))
        (first | exact k0 | exact q0 | exact keepCell q0 (by simp))
        (first
         | (go_at_call 37; refine (mSpare_any _ _).mono ?_; rintro e w6 ⟨rfl, rfl⟩)
         | (go_at_call 39; refine (pop_any _).mono ?_; rintro e w5 ⟨rfl, hsm5, hsz5, hk5⟩
            have hb5 := hk5.blk (hb3.drew)
            have q0 := hb5.cell 0
            have q4 := hb5.cell 4
            have f4 := hb5.free 4
            have q5 := hb5.cell 5
            have f5 := hb5.free 5
            simp only [List.getElem?_cons_zero, List.getElem?_cons_succ] at q0 q4 q5))
      all_goals
        go_wp2_with fail
        go_end0
        have hcb6 : Chg (fun k => k = b) w5 ((w5.setCell ⟨b, 4, none⟩ (.pointer (some ⟨w4.heap.size, 0, none⟩))).setCell ⟨b, 5, none⟩ ((PPc.spare).val b)) := ((Chg.refl (fun k => k = b) w5).setCell ⟨b, 4, none⟩ _ (fun _ => rfl)).setCell ⟨b, 5, none⟩ _ (fun _ => rfl)
        have l1 := hb3.lt
        have l2 := hs3.lt
        have l3 : w.heap.size ≤ w4.heap.size := hc3.size
        have hs5 := (hs3.drew.kept hk5).chg hcb6 (Ne.symm a2) (Ne.symm a3)
        have ht5 := (ht3.chg (Chg.drew (Chg.refl (fun _ => False) w4)) id).chg (Chg.ofBelow (S := fun _ => False) hk5) id
        have hsm6 := hsm5.chg hcb6 (by show ¬ w4.heap.size = b; omega)
        have hc7 : Chg (PmB b bi bs bl) w w5 := hc3.trans (Chg.ofBelow (S := PmB b bi bs bl) (w := w4) ⟨hk5.os, hk5.tape, hk5.output, hk5.size, hk5.block⟩)
        exact ⟨rfl, ⟨w4.heap.size, ⟨⟨by omega, a2, a3, by omega, by omega, a6, by omega, a8, a9⟩, hall, hlen, ⟨Int.le_refl 0, (by decide : (0 : Int) < 4294967296)⟩, _, _, (hb5.set' 4 _ rfl).set' 5 _ rfl, ht5.chg hcb6 a6, fun _ => ⟨rfl, hsm6, rfl⟩⟩, .inr l3⟩, hs5, hc7.trans (hcb6.mono (fun _ _ e => .inl e))⟩
    · rw [if_neg hz]
      have hzb : (x2.item == 0) = false := by simpa using hz
      clear hz
      go_enter Try.func40, Try.ntmps40
      go_wp2_with fail
      refine D.mono ?_; rintro e w2 ⟨rfl, hsm2, hs2, hc2⟩
      have hb2 := hc2.blk hb hns
      have k4 := hb2.cell 4
      have k3 := hb2.cell 3
      have f3 := hb2.free 3
      have k5 := hb2.cell 5
      have f5 := hb2.free 5
      simp only [List.getElem?_cons_zero, List.getElem?_cons_succ] at k4 k3 k5
      go_wp2_with fail
      refine (item_any w2 hsm2).mono ?_; rintro e w3 ⟨rfl, rfl⟩
      rw [hf]
      simp only [if_true]
      go_wp2_with fail
      go_end0
      have hcb : Chg (fun k => k = b) w2 ((w2.setCell ⟨b, 3, none⟩ (.int .i64 x2.item)).setCell ⟨b, 5, none⟩ ((PPc.fill).val b)) := ((Chg.refl (fun k => k = b) w2).setCell ⟨b, 3, none⟩ _ (fun _ => rfl)).setCell ⟨b, 5, none⟩ _ (fun _ => rfl)
      exact ⟨rfl, ⟨bi, ⟨ap, hall, hlen, hsm2.1.1, tv, _, (hb2.set' 3 _ rfl).set' 5 _ rfl, (ht.chg hc2 hnt).chg hcb a6, fun e => e.elim⟩, .inl rfl⟩, hs2.chg hcb (Ne.symm a2) (Ne.symm a3), (hc2.pmB).trans (hcb.mono (fun _ _ e => .inl e))⟩

end Go.Proofs.Ytchlbdfapgeebaa
