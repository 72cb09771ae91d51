/- A packet's machine: its first part: walked. A packet's machine: its step, its packet: walked. A packet's machine is made: walked. A packet's machine is made: Put: walked. A packet's machine that is run: what it does, as plain numbers; no program. -/
import Derived.Test.YtfbcadknimfhjaaGreatPkPack
import Derived.Deep.RegionLaw
namespace Go.Proofs.YtfbcadknimfhjaaGreat
open Go.RowKit

/-- The step of the stack of spare ones. -/
def pmSpare (c : Cfg) (mem : List Int) (s : PM) : List Int × PM :=
  ((smStep (lnk c) mem s.x).1,
    if (smStep (lnk c) mem s.x).2.pc.fin then
      if (smStep (lnk c) mem s.x).2.item = 0 then { s with pc := .spare, p := 0, x := ⟨.popHead, 5, 0, 0, 0⟩ }
      else { s with pc := .fill, p := (smStep (lnk c) mem s.x).2.item, x := (smStep (lnk c) mem s.x).2 }
    else { s with x := (smStep (lnk c) mem s.x).2 })

theorem SmAt.chg {w w' : World} {S : Nat → Prop} {b bm : Nat} {fl : FuncId} {s : SM} (h : SmAt w b fl bm s) (k : Chg S w w') (hn : ¬ S b) : SmAt w' b fl bm s := by
  obtain ⟨ok, t, hb⟩ := h
  exact ⟨ok, t, k.blk hb hn⟩

theorem spare_does {b bi gt bm bs bl B : Nat} {c : Cfg} {s : PM} {mem : List Int} {n : Int} (w : World) (hg : Good c) (h : PmAt w b bi gt bm bs bl s) (hs : StoreAt w bs bl mem n) (hm : MapAt w B bm c) (hp : s.pc = .spare) (hlt : gt < w.heap.size) :
    Calls Tryz.prog 90 #[.pointer (some ⟨b, 0, none⟩), .pointer (some ⟨bs, 0, none⟩)] w fun e w' => e = .returned (.tuple #[]) ∧
      (∃ bi', PmAt w' b bi' gt bm bs bl (pmSpare c mem s).2 ∧ (bi' = bi ∨ w.heap.size ≤ bi')) ∧ StoreAt w' bs bl (pmSpare c mem s).1 (cnt n) ∧ Chg (PmB b bi bs bl) w w' := by
  obtain ⟨ap, hall, hlen, hrng, tv, iv, hb, ht, hin⟩ := h
  obtain ⟨rfl, hsm, hx⟩ := hin (by rw [hp]; trivial)
  obtain ⟨a1, a2, a3, a4, a5, a6, a7, a8, a9⟩ := id ap
  have g4 := hb.cell 4
  simp only [List.getElem?_cons_zero, List.getElem?_cons_succ] at g4
  unfold pmSpare
  have D := through_any w hg a4 a5 hsm hs hm hx
  generalize smStep (lnk c) mem s.x = r at *
  obtain ⟨mem2, x2⟩ := r
  have hns : ¬ StB bi bs bl b := fun e => e.elim a1 (fun e => e.elim a2 a3)
  have hnt : ¬ StB bi bs bl gt := fun e => e.elim a7 (fun e => e.elim a8 a9)
  cases hf : x2.pc.fin
  · simp only [Bool.false_eq_true, if_false]
    simp only [hf] at D
    go_enter Tryz.func90, Tryz.ntmps90
    go_wp2_with fail
    refine D.mono ?_; rintro e w2 ⟨rfl, hsm2, hs2, hc2⟩
    go_wp2_with fail
    refine bodyPost_ret (results_none rfl _ _ _) rfl ?_
    exact ⟨rfl, ⟨bi, ⟨ap, hall, hlen, hrng, tv, _, hc2.blk hb hns, ht.chg hc2 hnt, fun _ => ⟨rfl, hsm2, hf⟩⟩, .inl rfl⟩, hs2, hc2.pmB⟩
  · simp only [if_true]
    simp only [hf] at D
    by_cases hz : x2.item = 0
    · rw [if_pos hz]
      have HZ : Hid (x2.item = 0) := hz
      clear hz
      go_enter Tryz.func90, Tryz.ntmps90
      go_wp2_with fail
      refine D.mono ?_; rintro e w2 ⟨rfl, hsm2, hs2, hc2⟩
      have hb2 := hc2.blk hb hns
      have k4 := hb2.cell 4
      have k3 := hb2.cell 3
      have f3 := hb2.free 3
      have k5 := hb2.cell 5
      have f5 := hb2.free 5
      simp only [List.getElem?_cons_zero, List.getElem?_cons_succ] at k4 k3 k5
      go_wp2_with fail
      refine (item_any w2 hsm2).mono ?_; rintro e w3 ⟨rfl, rfl⟩
      rw [hf]
      simp only [if_true]
      rw [HZ.out]
      go_wp2_with fail
      have hcb : Chg (fun k => k = b) w2 ((w2.setCell ⟨b, 3, none⟩ (.int .i64 0)).setCell ⟨b, 5, none⟩ ((PPc.fill).val b)) := ((Chg.refl (fun k => k = b) w2).setCell ⟨b, 3, none⟩ _ (fun _ => rfl)).setCell ⟨b, 5, none⟩ _ (fun _ => rfl)
      have hb3 : Blk ((w2.setCell ⟨b, 3, none⟩ (.int .i64 0)).setCell ⟨b, 5, none⟩ ((PPc.fill).val b)) b 133 (pmL bm tv s.j 0 (.pointer (some ⟨bi, 0, none⟩)) ((PPc.fill).val b)) := (hb2.set' 3 _ rfl).set' 5 _ rfl
      have hs3 := hs2.chg hcb (Ne.symm a2) (Ne.symm a3)
      have ht3 := (ht.chg hc2 hnt).chg hcb a6
      have hc3 := (hc2.pmB (b := b)).trans (hcb.mono (fun _ _ e => .inl e))
      simp only [PPc.val] at hb3 hs3 ht3 hc3 hcb
      generalize ((w2.setCell ⟨b, 3, none⟩ (.int .i64 0)).setCell ⟨b, 5, none⟩ (.func (.func 107) #[.pointer (some ⟨b, 0, none⟩)] #[])) = w4 at *
      clear k4 k3 f3 k5 f5
      have k0 := hb3.cell 0
      simp only [List.getElem?_cons_zero] at k0
      go_region_held3 (fun w' => w'.cell? ⟨b, 0, none⟩ = some (.pointer (some ⟨bm, 0, none⟩)))
        (first | exact k0 | exact q0 | exact keepCell q0 (by simp))
        (first
         | (go_at_call 89; refine (mSpare_any _ _).mono ?_; rintro e w6 ⟨rfl, rfl⟩)
         | (go_at_call 88; refine (pop_any _).mono ?_; rintro e w5 ⟨rfl, hsm5, hsz5, hk5⟩
            have hb5 := hk5.blk (hb3.drew)
            have q0 := hb5.cell 0
            have q4 := hb5.cell 4
            have f4 := hb5.free 4
            have q5 := hb5.cell 5
            have f5 := hb5.free 5
            simp only [List.getElem?_cons_zero, List.getElem?_cons_succ] at q0 q4 q5))
      all_goals
        go_wp2_with fail
        go_end0
        have hcb6 : Chg (fun k => k = b) w5 ((w5.setCell ⟨b, 4, none⟩ (.pointer (some ⟨w4.heap.size, 0, none⟩))).setCell ⟨b, 5, none⟩ ((PPc.spare).val b)) := ((Chg.refl (fun k => k = b) w5).setCell ⟨b, 4, none⟩ _ (fun _ => rfl)).setCell ⟨b, 5, none⟩ _ (fun _ => rfl)
        have l1 := hb3.lt
        have l2 := hs3.lt
        have l3 : w.heap.size ≤ w4.heap.size := hc3.size
        have hs5 := (hs3.drew.kept hk5).chg hcb6 (Ne.symm a2) (Ne.symm a3)
        have ht5 := (ht3.chg (Chg.drew (Chg.refl (fun _ => False) w4)) id).chg (Chg.ofBelow (S := fun _ => False) hk5) id
        have hsm6 := hsm5.chg hcb6 (by show ¬ w4.heap.size = b; omega)
        have hc7 : Chg (PmB b bi bs bl) w w5 := hc3.trans (Chg.ofBelow (S := PmB b bi bs bl) (w := w4) ⟨hk5.os, hk5.tape, hk5.output, hk5.size, hk5.block⟩)
        exact ⟨rfl, ⟨w4.heap.size, ⟨⟨by omega, a2, a3, by omega, by omega, a6, by omega, a8, a9⟩, hall, hlen, ⟨Int.le_refl 0, (by decide : (0 : Int) < 4294967296)⟩, _, _, (hb5.set' 4 _ rfl).set' 5 _ rfl, ht5.chg hcb6 a6, fun _ => ⟨rfl, hsm6, rfl⟩⟩, .inr l3⟩, hs5, hc7.trans (hcb6.mono (fun _ _ e => .inl e))⟩
    · rw [if_neg hz]
      have hzb : (x2.item == 0) = false := by simpa using hz
      clear hz
      go_enter Tryz.func90, Tryz.ntmps90
      go_wp2_with fail
      refine D.mono ?_; rintro e w2 ⟨rfl, hsm2, hs2, hc2⟩
      have hb2 := hc2.blk hb hns
      have k4 := hb2.cell 4
      have k3 := hb2.cell 3
      have f3 := hb2.free 3
      have k5 := hb2.cell 5
      have f5 := hb2.free 5
      simp only [List.getElem?_cons_zero, List.getElem?_cons_succ] at k4 k3 k5
      go_wp2_with fail
      refine (item_any w2 hsm2).mono ?_; rintro e w3 ⟨rfl, rfl⟩
      rw [hf]
      simp only [if_true]
      go_wp2_with fail
      go_end0
      have hcb : Chg (fun k => k = b) w2 ((w2.setCell ⟨b, 3, none⟩ (.int .i64 x2.item)).setCell ⟨b, 5, none⟩ ((PPc.fill).val b)) := ((Chg.refl (fun k => k = b) w2).setCell ⟨b, 3, none⟩ _ (fun _ => rfl)).setCell ⟨b, 5, none⟩ _ (fun _ => rfl)
      exact ⟨rfl, ⟨bi, ⟨ap, hall, hlen, hsm2.1.1, tv, _, (hb2.set' 3 _ rfl).set' 5 _ rfl, (ht.chg hc2 hnt).chg hcb a6, fun e => e.elim⟩, .inl rfl⟩, hs2.chg hcb (Ne.symm a2) (Ne.symm a3), (hc2.pmB).trans (hcb.mono (fun _ _ e => .inl e))⟩

end Go.Proofs.YtfbcadknimfhjaaGreat

namespace Go.Proofs.YtfbcadknimfhjaaGreat
open Go.RowKit

theorem pval_func {q : PPc} (b : Nat) (h : q.fin = false) : ∃ f : FuncId, q.val b = .func (.func f) #[.pointer (some ⟨b, 0, none⟩)] #[] := by
  cases q
  · cases h
  all_goals exact ⟨_, rfl⟩

theorem pval_done {q : PPc} (b : Nat) (h : q.fin = true) : q.val b = .nilFunc := by
  cases q
  · rfl
  all_goals cases h

/-- One step of a packet's machine. -/
def pmStep (c : Cfg) (mem : List Int) (s : PM) : List Int × PM :=
  match s.pc with
  | .done => (mem, s)
  | .spare => pmSpare c mem s
  | .fill => pmFill c mem s
  | .many => pmMany c mem s
  | .last => pmLast c mem s

set_option maxRecDepth 8000 in
theorem pstep_any {b bi gt bm bs bl B : Nat} {c : Cfg} {s : PM} {mem : List Int} {n : Int} (w : World) (hg : Good c) (h : PmAt w b bi gt bm bs bl s) (hs : StoreAt w bs bl mem n) (hm : MapAt w B bm c) (hlt : gt < w.heap.size) (hfl : s.pc = .fill → s.j < s.tasks.length) (hp : s.pc.fin = false) :
    Calls Tryz.prog 91 #[.pointer (some ⟨b, 0, none⟩), .pointer (some ⟨bs, 0, none⟩)] w fun e w' => e = .returned (.bool (pmStep c mem s).2.pc.fin) ∧
      (∃ bi', PmAt w' b bi' gt bm bs bl (pmStep c mem s).2 ∧ (bi' = bi ∨ w.heap.size ≤ bi')) ∧ StoreAt w' bs bl (pmStep c mem s).1 (cnt n) ∧ Chg (PmB b bi bs bl) w w' := by
  obtain ⟨tv, iv, hb, _, _⟩ := h.ex
  have g5 := hb.cell 5
  simp only [List.getElem?_cons_zero, List.getElem?_cons_succ] at g5
  have hn0 := func_eql0
  have hn1 := func_eql
  clear hb
  cases hq : s.pc
  case done => rw [hq] at hp; cases hp
  case spare =>
    have D := spare_does w hg h hs hm hq hlt
    rw [show pmStep c mem s = pmSpare c mem s from by unfold pmStep; rw [hq]]
    generalize pmSpare c mem s = r at *
    rw [hq] at g5
    simp only [PPc.val] at g5
    go_enter Tryz.func91, Tryz.ntmps91
    go_wp2_with fail
    refine D.mono ?_; rintro e w2 ⟨rfl, ⟨bi2, h2, hbi⟩, hs2, hc2⟩
    obtain ⟨t2, i2, hb2, _, _⟩ := h2.ex
    have k5 := hb2.cell 5
    simp only [List.getElem?_cons_zero, List.getElem?_cons_succ] at k5
    cases hf : r.2.pc.fin
    · obtain ⟨f, hv⟩ := pval_func b hf
      rw [hv] at k5
      go_wp2_with fail
      go_ret
      exact ⟨ret_bool hf.symm, ⟨bi2, h2, hbi⟩, hs2, hc2⟩
    · rw [pval_done b hf] at k5
      go_wp2_with fail
      go_ret
      exact ⟨ret_bool hf.symm, ⟨bi2, h2, hbi⟩, hs2, hc2⟩
  case fill =>
    have D := fill_does w hg h hs hm hq (hfl hq)
    rw [show pmStep c mem s = pmFill c mem s from by unfold pmStep; rw [hq]]
    generalize pmFill c mem s = r at *
    rw [hq] at g5
    simp only [PPc.val] at g5
    go_enter Tryz.func91, Tryz.ntmps91
    go_wp2_with fail
    refine D.mono ?_; rintro e w2 ⟨rfl, h2, hs2, hc2⟩
    obtain ⟨t2, i2, hb2, _, _⟩ := h2.ex
    have k5 := hb2.cell 5
    simp only [List.getElem?_cons_zero, List.getElem?_cons_succ] at k5
    cases hf : r.2.pc.fin
    · obtain ⟨f, hv⟩ := pval_func b hf
      rw [hv] at k5
      go_wp2_with fail
      go_ret
      exact ⟨ret_bool hf.symm, ⟨bi, h2, .inl rfl⟩, hs2, hc2⟩
    · rw [pval_done b hf] at k5
      go_wp2_with fail
      go_ret
      exact ⟨ret_bool hf.symm, ⟨bi, h2, .inl rfl⟩, hs2, hc2⟩
  case many =>
    have D := many_does w hg h hs hm hq hlt
    rw [show pmStep c mem s = pmMany c mem s from by unfold pmStep; rw [hq]]
    generalize pmMany c mem s = r at *
    rw [hq] at g5
    simp only [PPc.val] at g5
    go_enter Tryz.func91, Tryz.ntmps91
    go_wp2_with fail
    refine D.mono ?_; rintro e w2 ⟨rfl, ⟨bi2, h2, hbi⟩, hs2, hc2⟩
    obtain ⟨t2, i2, hb2, _, _⟩ := h2.ex
    have k5 := hb2.cell 5
    simp only [List.getElem?_cons_zero, List.getElem?_cons_succ] at k5
    cases hf : r.2.pc.fin
    · obtain ⟨f, hv⟩ := pval_func b hf
      rw [hv] at k5
      go_wp2_with fail
      go_ret
      exact ⟨ret_bool hf.symm, ⟨bi2, h2, .inr hbi⟩, hs2, hc2⟩
    · rw [pval_done b hf] at k5
      go_wp2_with fail
      go_ret
      exact ⟨ret_bool hf.symm, ⟨bi2, h2, .inr hbi⟩, hs2, hc2⟩
  case last =>
    have D := last_does w hg h hs hm hq
    rw [show pmStep c mem s = pmLast c mem s from by unfold pmStep; rw [hq]]
    generalize pmLast c mem s = r at *
    rw [hq] at g5
    simp only [PPc.val] at g5
    go_enter Tryz.func91, Tryz.ntmps91
    go_wp2_with fail
    refine D.mono ?_; rintro e w2 ⟨rfl, h2, hs2, hc2⟩
    obtain ⟨t2, i2, hb2, _, _⟩ := h2.ex
    have k5 := hb2.cell 5
    simp only [List.getElem?_cons_zero, List.getElem?_cons_succ] at k5
    cases hf : r.2.pc.fin
    · obtain ⟨f, hv⟩ := pval_func b hf
      rw [hv] at k5
      go_wp2_with fail
      go_ret
      exact ⟨ret_bool hf.symm, ⟨bi, h2, .inl rfl⟩, hs2, hc2⟩
    · rw [pval_done b hf] at k5
      go_wp2_with fail
      go_ret
      exact ⟨ret_bool hf.symm, ⟨bi, h2, .inl rfl⟩, hs2, hc2⟩

end Go.Proofs.YtfbcadknimfhjaaGreat

namespace Go.Proofs.YtfbcadknimfhjaaGreat
open Go.RowKit

theorem pstepDone {b bi gt bm bs bl : Nat} {s : PM} (w : World) (sp : Value) (h : PmAt w b bi gt bm bs bl s) (hp : s.pc = .done) :
    Calls Tryz.prog 91 #[.pointer (some ⟨b, 0, none⟩), sp] w fun e w' => e = .returned (.bool true) ∧ w = w' := by
  obtain ⟨tv, iv, hb, _, _⟩ := h.ex
  rw [hp] at hb
  have g5 := hb.cell 5
  simp only [List.getElem?_cons_zero, List.getElem?_cons_succ] at g5
  have hn0 := func_eql0
  simp only [PPc.val] at g5
  go_enter Tryz.func91, Tryz.ntmps91
  go_wp2_with fail
  go_ret
  exact ⟨rfl, rfl⟩

end Go.Proofs.YtfbcadknimfhjaaGreat

namespace Go.Proofs.YtfbcadknimfhjaaGreat
open Go.RowKit

theorem add_block (ad : Addr) (i : Nat) : (ad.add i).block = ad.block := by unfold Addr.add; split <;> rfl

theorem cell_alloc_far (w : World) (o : Obj) {a : Addr} (h : a.block < w.heap.size) : (w.alloc o).cell? a = w.cell? a := World.cell?_of_block (Below.heap_alloc w o a.block h)

set_option maxRecDepth 8000 in
set_option maxHeartbeats 1600000 in
theorem packPut_any {bm bs bl B : Nat} {c : Cfg} {mem : List Int} {n : Int} {ad : Addr} {cap : Nat} {ts : List Int} (w : World) (hs : StoreAt w bs bl mem n) (_hm : MapAt w B bm c) (hcap : ts.length ≤ cap) (hcell : ∀ i u, (ts.map (Value.int .u64))[i]? = some u → w.cell? (ad.add i) = some u) (hadl : ad.block < w.heap.size)
    (hall : ∀ x ∈ ts, U x) (hpos : 0 < ts.length) (hle : ts.length ≤ 1000) :
    Calls Tryz.prog 73 #[.pointer (some ⟨bm, 0, none⟩), .slice (some ad) ts.length cap] w fun e w' => ∃ b bi gt, e = .returned (.pointer (some ⟨b, 0, none⟩)) ∧ PmAt w' b bi gt bm bs bl ⟨.spare, ts.take 4, 0, 0, ⟨.popHead, 5, 0, 0, 0⟩⟩ ∧ w.heap.size ≤ b ∧ w.heap.size ≤ bi ∧ w.heap.size ≤ gt ∧ gt < w'.heap.size ∧ Kept w w' := by
  obtain ⟨i0, hi, hz0, hz1, hz2⟩ := info_parts info_u64
  obtain ⟨k, hk⟩ : ∃ k : Nat, k = min ts.length 4 := ⟨_, rfl⟩
  have HK : Hid (k = min ts.length 4) := hk
  have hmin : min (ts.length : Int) 4 = (k : Int) := by omega
  have hk0 : (0 : Int) ≤ k := by omega
  have hk1 : 0 < k := by omega
  have hk2 : (k : Int) ≤ cap := by omega
  have hkb : k ≤ 4 := by omega
  have hl4 : ((ts.take 4).map (Value.int .u64)).length = k := by simp; omega
  have HL : Hid (((ts.take 4).map (Value.int .u64)).length = k) := hl4
  clear hl4 hk
  have hb := Blk.new w 133 (pmL bm (.slice none 0 0) 0 0 (.pointer none) .nilFunc)
  have hk3 : Kept w (w.alloc (.cells (pmL bm (.slice none 0 0) 0 0 (.pointer none) .nilFunc).toArray 133)) := (Below.refl _ _).alloc (Nat.le_refl _) _
  go_enter Tryz.func73, Tryz.ntmps73
  go_wp2_with fail
  generalize hw1 : w.alloc (.cells (pmL bm (.slice none 0 0) 0 0 (.pointer none) .nilFunc).toArray 133) = w1 at *
  have hz : w1.heap.size = w.heap.size + 1 := by rw [← hw1]; simp
  have hcell1 : ∀ i u, ((ts.take 4).map (Value.int .u64))[i]? = some u → w1.cell? (ad.add i) = some u := by
    intro i u hu
    have h0 : (ts.map (Value.int .u64))[i]? = some u := by
      rw [List.map_take, List.getElem?_take] at hu
      split at hu
      · exact hu
      · cases hu
    have := hcell i u h0
    rw [← hw1, cell_alloc_far w _ (by rw [add_block]; exact hadl)]
    exact this
  clear hw1 hcell
  have k1 := hb.cell 1
  have f1 := hb.free 1
  simp only [List.getElem?_cons_zero, List.getElem?_cons_succ] at k1
  have h0 : w1.ownsRow w1.heap.size 25 1 (.slice none 0 0) 0 [] := World.ownsRow_nil _ _ _ _
  have hone : ∀ u ∈ (ts.take 4).map (Value.int .u64), u.oneCell' = true := by
    intro u hu
    obtain ⟨x, _, rfl⟩ := List.mem_map.1 hu
    rfl
  have h63 : 0 + k ≤ maxLen := by unfold maxLen; omega
  have hb8 : (0 + k) * 8 ≤ 140737488355328 := by omega
  go_region_law
    ((refine step_append_lies _ (by rfl) _ _ _ (by rfl) w1.heap.size 25 i0 _ 1 8 Tryz.underlying41 hi hz0 hz1 hz2 rfl (by omega) (.slice none 0 0) 0 [] (by rfl) h0.drew
        ad k cap ((ts.take 4).map (Value.int .u64)) (by rfl) (by rw [HL.out]; omega) hcell1 hone
        hk1 h63 hb8 (by simp) w1.heap.size (by simp) ?_; intro gt gcap w2 own2 hgrow hat hlt2
      have hb2 := Blk.grown (hb.drew) hgrow (by simp [Value.ownBlock])
      have k1' := hb2.cell 1
      have f1' := hb2.free 1
      simp only [List.getElem?_cons_zero, List.getElem?_cons_succ] at k1'))
  all_goals
    have hp0 : (0 : Int) < ts.length := by omega
    have own3 := ownsRow_setCell_below own2 (a := ⟨w.heap.size, 1, none⟩) (by simp; omega) (.slice (some ⟨gt, 0, none⟩) k gcap)
    have hb3 := hb2.set' 1 (.slice (some ⟨gt, 0, none⟩) k gcap) (l' := pmL bm (.slice (some ⟨gt, 0, none⟩) k gcap) 0 0 (.pointer none) .nilFunc) rfl
    have hkk : Kept w w2 := (hk3.drew).grown hgrow (by simp; omega) (fun g hg => absurd (show (none : Option Nat) = some g from hg) (by simp))
    have hk4 := Below.setCell hkk (p := ⟨w.heap.size, 1, none⟩) (Nat.le_refl _) (.slice (some ⟨gt, 0, none⟩) k gcap)
    have hgb := ownsRow_base own3 gt rfl
    generalize w2.setCell ⟨w.heap.size, 1, none⟩ (.slice (some ⟨gt, 0, none⟩) k gcap) = w4 at *
    clear own2 hb2 hgrow hkk hk3 k1' f1'
    go_wp2_with fail
    refine (mSpare_any bm w4).mono ?_; rintro e w5 ⟨rfl, rfl⟩
    go_wp2_with fail
    refine (pop_any w4).mono ?_; rintro e w5 ⟨rfl, hsm5, hsz5, hk5⟩
    have hb5 := hk5.blk hb3
    have q4 := hb5.cell 4
    have f4 := hb5.free 4
    have q5 := hb5.cell 5
    have f5 := hb5.free 5
    simp only [List.getElem?_cons_zero, List.getElem?_cons_succ] at q4 q5
    go_wp2_with fail
    go_ret
    have l := hs.lt
    have hz4 := hk4.size
    have hcb : Chg (fun k => k = w.heap.size) w5 ((w5.setCell ⟨w.heap.size, 4, none⟩ (.pointer (some ⟨w4.heap.size, 0, none⟩))).setCell ⟨w.heap.size, 5, none⟩ ((PPc.spare).val w.heap.size)) := ((Chg.refl (fun k => k = w.heap.size) w5).setCell ⟨w.heap.size, 4, none⟩ _ (fun _ => rfl)).setCell ⟨w.heap.size, 5, none⟩ _ (fun _ => rfl)
    have hlt4 : (ts.take 4).length = k := by have := HK.out; simp; omega
    obtain ⟨cur, hbt⟩ : ∃ rest, Blk w4 gt 25 ((ts.take 4).map (Value.int .u64) ++ rest) := by
      rcases own3.2 with ⟨h, _⟩ | ⟨g', cap', cur, hv, hb0, hh, y1, y2, y3, y4⟩
      · cases h
      · simp at hv
        obtain ⟨rfl, rfl⟩ := hv
        refine ⟨cur.toList.drop k, ?_⟩
        have hc : (ts.take 4).map (Value.int .u64) ++ cur.toList.drop k = cur.toList := by
          have y5 : cur.toList.take k = (ts.take 4).map (Value.int .u64) := by simpa using y4
          rw [← y5]; exact List.take_append_drop _ _
        rw [hc]
        unfold Blk; rw [hh]
    have ht5 : TasksAt w5 gt (.slice (some ⟨gt, 0, none⟩) k gcap) (ts.take 4) := .inr ⟨gcap, cur, by rw [hlt4], hk5.blk hbt⟩
    have hgs : gt < w5.heap.size := by have := (hk5.blk hbt).lt; exact this
    exact ⟨w.heap.size, w4.heap.size, gt, rfl, ⟨⟨by omega, by omega, by omega, by omega, by omega, by omega, by omega, by omega, by omega⟩, (fun x hx => hall x (List.mem_of_mem_take hx)), ⟨by rw [hlt4]; exact hkb, Nat.zero_le _⟩, ⟨Int.le_refl 0, (by decide : (0 : Int) < 4294967296)⟩, _, _, (hb5.set' 4 _ rfl).set' 5 _ rfl, ht5.chg hcb (by show ¬ gt = w.heap.size; omega), fun _ => ⟨rfl, hsm5.chg hcb (by show ¬ w4.heap.size = w.heap.size; omega), rfl⟩⟩, Nat.le_refl _, by omega, by omega, by simpa using hgs, Below.setCell (Below.setCell (Kept.trans' hk4 hk5) (p := ⟨w.heap.size, 4, none⟩) (Nat.le_refl _) _) (p := ⟨w.heap.size, 5, none⟩) (Nat.le_refl _) _⟩

end Go.Proofs.YtfbcadknimfhjaaGreat

namespace Go.Proofs.YtfbcadknimfhjaaGreat
open Go.RowKit

/-- What a machine that may be knows. -/
structure PmOk (s : PM) : Prop where
  spare : s.pc = .spare → s.j = 0 ∧ 0 < s.tasks.length
  fill : s.pc = .fill → s.j < s.tasks.length

theorem pmSpare_ok {c : Cfg} {mem : List Int} {s : PM} (h : PmOk s) (hp : s.pc = .spare) : PmOk (pmSpare c mem s).2 := by
  obtain ⟨h1, h2⟩ := h.spare hp
  unfold pmSpare
  split
  · split
    · exact ⟨fun _ => ⟨h1, h2⟩, fun e => by cases e⟩
    · exact ⟨fun e => (by cases e), fun _ => by show s.j < s.tasks.length; omega⟩
  · exact ⟨fun _ => ⟨h1, h2⟩, fun e => by rw [show s.pc = PPc.spare from hp] at e; cases e⟩

theorem pmStep_ok {c : Cfg} {mem : List Int} {s : PM} (h : PmOk s) : PmOk (pmStep c mem s).2 := by
  unfold pmStep
  split
  · exact h
  · next hp => exact pmSpare_ok h hp
  · next hp =>
    have := h.fill hp
    unfold pmFill
    refine ⟨fun e => ?_, fun e => ?_⟩
    · simp only at e; split at e <;> cases e
    · simp only at e ⊢
      split at e
      · cases e
      · omega
  · unfold pmMany
    exact ⟨fun e => (by cases e), fun e => by cases e⟩
  · next hp =>
    unfold pmLast
    split
    · exact ⟨fun e => (by cases e), fun e => by cases e⟩
    · exact ⟨fun e => (by rw [show s.pc = PPc.last from hp] at e; cases e), fun e => by rw [show s.pc = PPc.last from hp] at e; cases e⟩

/-- So many steps. -/
def pmRun (c : Cfg) : Nat → List Int × PM → List Int × PM
  | 0, x => x
  | k + 1, x => pmStep c (pmRun c k x).1 (pmRun c k x).2

theorem pmRun_ok {c : Cfg} {x : List Int × PM} (h : PmOk x.2) (k : Nat) : PmOk (pmRun c k x).2 := by
  induction k with
  | zero => exact h
  | succ k ih => exact pmStep_ok ih

theorem fin_iff {q : PPc} : q.fin = true ↔ q = .done := by cases q <;> simp [PPc.fin]

theorem pmStep_done {c : Cfg} {mem : List Int} {s : PM} (h : s.pc = .done) : pmStep c mem s = (mem, s) := by
  unfold pmStep; rw [h]

/-- A packet that was got; 0: none. -/
def PM.packet (s : PM) : Int := if s.pc.fin then s.p else 0

/-- The things of a stack. -/
def walkL (lf : Int → Int) (mem : List Int) : Nat → Int → List Int
  | 0, _ => []
  | k + 1, place => if 0 ≤ place ∧ place < mem.length ∧ loI (mget mem place) ≠ 0 then loI (mget mem place) :: walkL lf mem k (lf (loI (mget mem place))) else []

/-- A packet's tasks. -/
def tasksL (c : Cfg) (mem : List Int) (p : Int) : List Int := (List.range (min (mget mem (pPack c p 0)) 4).toNat).map fun (j : Nat) => mget mem (pTask c p j)

/-- The tasks of the pool. -/
def heldL (c : Cfg) (mem : List Int) : List Int := (walkL (lnk c) mem (manyI c).toNat 4).flatMap (tasksL c mem)

end Go.Proofs.YtfbcadknimfhjaaGreat
