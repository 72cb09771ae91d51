/- The document's stack: its machine's last steps, and any step: walked. -/
import Derived.Test.YtfbcadknimfhjaaGreatPkRef9
namespace Go.Proofs.YtfbcadknimfhjaaGreat
open Go.RowKit

theorem toA (a : List Value) : a.toArray = a.toArray := rfl

set_option maxRecDepth 8000 in
set_option maxHeartbeats 1600000 in
theorem st9_pushSwap {Ls mem : List Int} {s : SM} {l v vl : Value} (w : World) (h : R9 w v Ls vl s) (hm : MemV w l mem) (hall : ∀ x ∈ mem, U x) (hlen : mem.length ≤ 20000) (hp : s.pc = .pushSwap) :
    Calls Tryz.prog 80 #[l, v] w fun e w' => ∃ l' v', e = .returned (.tuple #[l', v']) ∧ MemV w' l' (smStep (lkL Ls) mem s).1 ∧ R9 w' v' Ls vl (smStep (lkL Ls) mem s).2 ∧ Kept w w' ∧ (∀ g, l'.ownBlock = some g → l' = l ∨ w.heap.size ≤ g) := by
  obtain ⟨pc, hd, item, h, link⟩ := s
  simp only at hp
  subst hp
  obtain ⟨⟨hi0, hi1⟩, hU, ⟨hl0, hl1⟩, kind, tries, rfl, hrow, hpu, hpo⟩ := h
  simp only at hi0 hi1 hU hl0 hl1 hpu hpo ⊢
  obtain rfl := hpu trivial
  obtain ⟨ao, cap, hvl⟩ := hrow.form
  obtain ⟨ln, hln⟩ : ∃ ln, ln = (Ls.map (Value.int .i64)).length := ⟨_, rfl⟩
  rw [← hln] at hvl
  subst hvl
  clear hln hpu hpo
  obtain ⟨mo, mc, hmv⟩ := hm.form
  obtain ⟨ml, hml⟩ : ∃ ml, ml = (mem.map (Value.int .u64)).length := ⟨_, rfl⟩
  rw [← hml] at hmv
  subst hmv
  clear hml
  have HR : Hid (∀ W, Kept w W → Row W (.slice ao ln cap) (Ls.map (Value.int .i64))) := fun W k => hrow.kept k
  have HM : Hid (∀ W, Kept w W → MemV W (.slice mo ml mc) mem) := fun W k => hm.kept k
  clear hrow hm
  have HA : Hid (∀ x ∈ mem, U x) := hall
  clear hall
  simp only [smStep, pcN]
  have TR := fun W k => turn_ref (kind := 1) (hd := hd) (item := item) (hw := h) (link := link) (tries := tries) (low := item) W (HR.out W k) (HM.out W k) hlen hU ⟨hi0, hi1⟩
  obtain ⟨hit, hh⟩ : ∃ b, mhit mem hd h = b := ⟨_, rfl⟩
  rw [hh] at TR ⊢
  clear hh
  have hb0 := Blk.new w 55 [.int .i64 (1), .int .i64 (3), .int .i64 (hd), .slice ao ln cap, .int .u32 (item), .int .u64 (h), .int .u32 (link), .int .i64 (tries)]
  have hk0 : Kept w (w.alloc (.cells ([.int .i64 (1), .int .i64 (3), .int .i64 (hd), .slice ao ln cap, .int .u32 (item), .int .u64 (h), .int .u32 (link), .int .i64 (tries)] : List Value).toArray 55)) := (Below.refl _ _).alloc (Nat.le_refl _) _
  have z0 : (w.alloc (.cells ([.int .i64 (1), .int .i64 (3), .int .i64 (hd), .slice ao ln cap, .int .u32 (item), .int .u64 (h), .int .u32 (link), .int .i64 (tries)] : List Value).toArray 55)).heap.size = w.heap.size + 1 := by simp
  go_enter Tryz.func80, Tryz.ntmps80
  cases hit
  · simp only [Bool.false_eq_true, ↓reduceIte] at TR ⊢
    go_wp2_with fail
    generalize w.alloc (.cells ([.int .i64 (1), .int .i64 (3), .int .i64 (hd), .slice ao ln cap, .int .u32 (item), .int .u64 (h), .int .u32 (link), .int .i64 (tries)] : List Value).toArray 55) = w1 at *
    have hr0 := Blk.new w1 55 [.int .i64 0, .int .i64 0, .int .i64 0, .slice none 0 0, .int .u32 0, .int .u64 0, .int .u32 0, .int .i64 0]
    rw [z0] at hr0
    have hk1 : Kept w1 (w1.alloc (.cells ([.int .i64 0, .int .i64 0, .int .i64 0, .slice none 0 0, .int .u32 0, .int .u64 0, .int .u32 0, .int .i64 0] : List Value).toArray 55)) := (Below.refl _ _).alloc (Nat.le_refl _) _
    have z1 : (w1.alloc (.cells ([.int .i64 0, .int .i64 0, .int .i64 0, .slice none 0 0, .int .u32 0, .int .u64 0, .int .u32 0, .int .i64 0] : List Value).toArray 55)).heap.size = w.heap.size + 2 := by simp [z0]
    generalize w1.alloc (.cells ([.int .i64 0, .int .i64 0, .int .i64 0, .slice none 0 0, .int .u32 0, .int .u64 0, .int .u32 0, .int .i64 0] : List Value).toArray 55) = w2 at *
    have hb := hk1.blk hb0
    have hr := hr0
    have hk : Kept w w2 := hk0.trans' hk1
    clear hb0 hr0 hk0 hk1 z0
    have b0 := hb.cell 0
    have b1 := hb.cell 1
    have b2 := hb.cell 2
    have b3 := hb.cell 3
    have b4 := hb.cell 4
    have b5 := hb.cell 5
    have b6 := hb.cell 6
    have b7 := hb.cell 7
    simp only [List.getElem?_cons_zero, List.getElem?_cons_succ] at b0 b1 b2 b3 b4 b5 b6 b7
    go_wp2_with fail
    refine (TR w2 hk).mono ?_; rintro e w3 ⟨l', rfl, hl', hkc, hown⟩
    rw [z1] at hown
    replace hb := hkc.blk hb
    replace hr := hkc.blk hr
    replace hk := hk.trans' hkc
    clear hkc
    have q0 := hr.cell 0
    have q1 := hr.cell 1
    have q2 := hr.cell 2
    have q3 := hr.cell 3
    have q4 := hr.cell 4
    have q5 := hr.cell 5
    have q6 := hr.cell 6
    have q7 := hr.cell 7
    have fq0 := hr.free 0
    have fq1 := hr.free 1
    have fq2 := hr.free 2
    have fq3 := hr.free 3
    have fq4 := hr.free 4
    have fq5 := hr.free 5
    have fq6 := hr.free 6
    have fq7 := hr.free 7
    simp only [List.getElem?_cons_zero, List.getElem?_cons_succ] at q0 q1 q2 q3 q4 q5 q6 q7
    go_wp2_with fail
    have hr9 : Blk ((((((((w3.setCell ⟨w.heap.size + 1, 0, none⟩ (.int .i64 (1))).setCell ⟨w.heap.size + 1, 1, none⟩ (.int .i64 (1))).setCell ⟨w.heap.size + 1, 2, none⟩ (.int .i64 (hd))).setCell ⟨w.heap.size + 1, 3, none⟩ (.slice ao ln cap)).setCell ⟨w.heap.size + 1, 4, none⟩ (.int .u32 (item))).setCell ⟨w.heap.size + 1, 5, none⟩ (.int .u64 (h))).setCell ⟨w.heap.size + 1, 6, none⟩ (.int .u32 (link))).setCell ⟨w.heap.size + 1, 7, none⟩ (.int .i64 (tries))) (w.heap.size + 1) 55 [.int .i64 (1), .int .i64 (1), .int .i64 (hd), .slice ao ln cap, .int .u32 (item), .int .u64 (h), .int .u32 (link), .int .i64 (tries)] := ((((((((hr.set' 0 (.int .i64 (1)) rfl).set' 1 (.int .i64 (1)) rfl).set' 2 (.int .i64 (hd)) rfl).set' 3 (.slice ao ln cap) rfl).set' 4 (.int .u32 (item)) rfl).set' 5 (.int .u64 (h)) rfl).set' 6 (.int .u32 (link)) rfl).set' 7 (.int .i64 (tries)) rfl)
    have hk9 : Kept w ((((((((w3.setCell ⟨w.heap.size + 1, 0, none⟩ (.int .i64 (1))).setCell ⟨w.heap.size + 1, 1, none⟩ (.int .i64 (1))).setCell ⟨w.heap.size + 1, 2, none⟩ (.int .i64 (hd))).setCell ⟨w.heap.size + 1, 3, none⟩ (.slice ao ln cap)).setCell ⟨w.heap.size + 1, 4, none⟩ (.int .u32 (item))).setCell ⟨w.heap.size + 1, 5, none⟩ (.int .u64 (h))).setCell ⟨w.heap.size + 1, 6, none⟩ (.int .u32 (link))).setCell ⟨w.heap.size + 1, 7, none⟩ (.int .i64 (tries))) := (Below.setCell (Below.setCell (Below.setCell (Below.setCell (Below.setCell (Below.setCell (Below.setCell (Below.setCell hk (p := ⟨w.heap.size + 1, 0, none⟩) (by simp) _) (p := ⟨w.heap.size + 1, 1, none⟩) (by simp) _) (p := ⟨w.heap.size + 1, 2, none⟩) (by simp) _) (p := ⟨w.heap.size + 1, 3, none⟩) (by simp) _) (p := ⟨w.heap.size + 1, 4, none⟩) (by simp) _) (p := ⟨w.heap.size + 1, 5, none⟩) (by simp) _) (p := ⟨w.heap.size + 1, 6, none⟩) (by simp) _) (p := ⟨w.heap.size + 1, 7, none⟩) (by simp) _)
    have hc9 : Chg (fun q => q = w.heap.size + 1) w3 ((((((((w3.setCell ⟨w.heap.size + 1, 0, none⟩ (.int .i64 (1))).setCell ⟨w.heap.size + 1, 1, none⟩ (.int .i64 (1))).setCell ⟨w.heap.size + 1, 2, none⟩ (.int .i64 (hd))).setCell ⟨w.heap.size + 1, 3, none⟩ (.slice ao ln cap)).setCell ⟨w.heap.size + 1, 4, none⟩ (.int .u32 (item))).setCell ⟨w.heap.size + 1, 5, none⟩ (.int .u64 (h))).setCell ⟨w.heap.size + 1, 6, none⟩ (.int .u32 (link))).setCell ⟨w.heap.size + 1, 7, none⟩ (.int .i64 (tries))) := (((((((((Chg.refl (fun q => q = w.heap.size + 1) w3).setCell ⟨w.heap.size + 1, 0, none⟩ (.int .i64 (1)) (fun _ => rfl)).setCell ⟨w.heap.size + 1, 1, none⟩ (.int .i64 (1)) (fun _ => rfl)).setCell ⟨w.heap.size + 1, 2, none⟩ (.int .i64 (hd)) (fun _ => rfl)).setCell ⟨w.heap.size + 1, 3, none⟩ (.slice ao ln cap) (fun _ => rfl)).setCell ⟨w.heap.size + 1, 4, none⟩ (.int .u32 (item)) (fun _ => rfl)).setCell ⟨w.heap.size + 1, 5, none⟩ (.int .u64 (h)) (fun _ => rfl)).setCell ⟨w.heap.size + 1, 6, none⟩ (.int .u32 (link)) (fun _ => rfl)).setCell ⟨w.heap.size + 1, 7, none⟩ (.int .i64 (tries)) (fun _ => rfl))
    have hm9 := (HM.out w (Below.refl _ _)).past hl' (by simp []) (fun q e => by omega) hown hc9
    generalize ((((((((w3.setCell ⟨w.heap.size + 1, 0, none⟩ (.int .i64 (1))).setCell ⟨w.heap.size + 1, 1, none⟩ (.int .i64 (1))).setCell ⟨w.heap.size + 1, 2, none⟩ (.int .i64 (hd))).setCell ⟨w.heap.size + 1, 3, none⟩ (.slice ao ln cap)).setCell ⟨w.heap.size + 1, 4, none⟩ (.int .u32 (item))).setCell ⟨w.heap.size + 1, 5, none⟩ (.int .u64 (h))).setCell ⟨w.heap.size + 1, 6, none⟩ (.int .u32 (link))).setCell ⟨w.heap.size + 1, 7, none⟩ (.int .i64 (tries))) = w9 at *
    clear q0 q1 q2 q3 q4 q5 q6 q7 fq0 fq1 fq2 fq3 fq4 fq5 fq6 fq7
    have k0 := hr9.cell 0
    have k1 := hr9.cell 1
    have k2 := hr9.cell 2
    have k3 := hr9.cell 3
    have k4 := hr9.cell 4
    have k5 := hr9.cell 5
    have k6 := hr9.cell 6
    have k7 := hr9.cell 7
    simp only [List.getElem?_cons_zero, List.getElem?_cons_succ] at k0 k1 k2 k3 k4 k5 k6 k7
    exact bodyPost_ret (v := .tuple #[l', .agg ([.int .i64 (1), .int .i64 (1), .int .i64 (hd), .slice ao ln cap, .int .u32 (item), .int .u64 (h), .int .u32 (link), .int .i64 (tries)] : List Value).toArray]) (by simp [results, Tryz.results80, go_sem, k0, k1, k2, k3, k4, k5, k6, k7]) rfl ⟨_, _, rfl, hm9, ⟨⟨hi0, hi1⟩, hU, ⟨hl0, hl1⟩, 1, tries, rfl, HR.out _ hk9, fun _ => rfl, fun e => e.elim⟩, hk9, fun g e => (hown g e).imp id (fun e => by omega)⟩
  · simp only [↓reduceIte] at TR ⊢
    go_wp2_with fail
    generalize w.alloc (.cells ([.int .i64 (1), .int .i64 (3), .int .i64 (hd), .slice ao ln cap, .int .u32 (item), .int .u64 (h), .int .u32 (link), .int .i64 (tries)] : List Value).toArray 55) = w1 at *
    have hr0 := Blk.new w1 55 [.int .i64 0, .int .i64 0, .int .i64 0, .slice none 0 0, .int .u32 0, .int .u64 0, .int .u32 0, .int .i64 0]
    rw [z0] at hr0
    have hk1 : Kept w1 (w1.alloc (.cells ([.int .i64 0, .int .i64 0, .int .i64 0, .slice none 0 0, .int .u32 0, .int .u64 0, .int .u32 0, .int .i64 0] : List Value).toArray 55)) := (Below.refl _ _).alloc (Nat.le_refl _) _
    have z1 : (w1.alloc (.cells ([.int .i64 0, .int .i64 0, .int .i64 0, .slice none 0 0, .int .u32 0, .int .u64 0, .int .u32 0, .int .i64 0] : List Value).toArray 55)).heap.size = w.heap.size + 2 := by simp [z0]
    generalize w1.alloc (.cells ([.int .i64 0, .int .i64 0, .int .i64 0, .slice none 0 0, .int .u32 0, .int .u64 0, .int .u32 0, .int .i64 0] : List Value).toArray 55) = w2 at *
    have hb := hk1.blk hb0
    have hr := hr0
    have hk : Kept w w2 := hk0.trans' hk1
    clear hb0 hr0 hk0 hk1 z0
    have b0 := hb.cell 0
    have b1 := hb.cell 1
    have b2 := hb.cell 2
    have b3 := hb.cell 3
    have b4 := hb.cell 4
    have b5 := hb.cell 5
    have b6 := hb.cell 6
    have b7 := hb.cell 7
    simp only [List.getElem?_cons_zero, List.getElem?_cons_succ] at b0 b1 b2 b3 b4 b5 b6 b7
    go_wp2_with fail
    refine (TR w2 hk).mono ?_; rintro e w3 ⟨l', rfl, hl', hkc, hown⟩
    rw [z1] at hown
    replace hb := hkc.blk hb
    replace hr := hkc.blk hr
    replace hk := hk.trans' hkc
    clear hkc
    have q0 := hr.cell 0
    have q1 := hr.cell 1
    have q2 := hr.cell 2
    have q3 := hr.cell 3
    have q4 := hr.cell 4
    have q5 := hr.cell 5
    have q6 := hr.cell 6
    have q7 := hr.cell 7
    have fq0 := hr.free 0
    have fq1 := hr.free 1
    have fq2 := hr.free 2
    have fq3 := hr.free 3
    have fq4 := hr.free 4
    have fq5 := hr.free 5
    have fq6 := hr.free 6
    have fq7 := hr.free 7
    simp only [List.getElem?_cons_zero, List.getElem?_cons_succ] at q0 q1 q2 q3 q4 q5 q6 q7
    go_wp2_with fail
    have hr9 : Blk ((((((((w3.setCell ⟨w.heap.size + 1, 0, none⟩ (.int .i64 (1))).setCell ⟨w.heap.size + 1, 1, none⟩ (.int .i64 (0))).setCell ⟨w.heap.size + 1, 2, none⟩ (.int .i64 (hd))).setCell ⟨w.heap.size + 1, 3, none⟩ (.slice ao ln cap)).setCell ⟨w.heap.size + 1, 4, none⟩ (.int .u32 (item))).setCell ⟨w.heap.size + 1, 5, none⟩ (.int .u64 (h))).setCell ⟨w.heap.size + 1, 6, none⟩ (.int .u32 (link))).setCell ⟨w.heap.size + 1, 7, none⟩ (.int .i64 (tries))) (w.heap.size + 1) 55 [.int .i64 (1), .int .i64 (0), .int .i64 (hd), .slice ao ln cap, .int .u32 (item), .int .u64 (h), .int .u32 (link), .int .i64 (tries)] := ((((((((hr.set' 0 (.int .i64 (1)) rfl).set' 1 (.int .i64 (0)) rfl).set' 2 (.int .i64 (hd)) rfl).set' 3 (.slice ao ln cap) rfl).set' 4 (.int .u32 (item)) rfl).set' 5 (.int .u64 (h)) rfl).set' 6 (.int .u32 (link)) rfl).set' 7 (.int .i64 (tries)) rfl)
    have hk9 : Kept w ((((((((w3.setCell ⟨w.heap.size + 1, 0, none⟩ (.int .i64 (1))).setCell ⟨w.heap.size + 1, 1, none⟩ (.int .i64 (0))).setCell ⟨w.heap.size + 1, 2, none⟩ (.int .i64 (hd))).setCell ⟨w.heap.size + 1, 3, none⟩ (.slice ao ln cap)).setCell ⟨w.heap.size + 1, 4, none⟩ (.int .u32 (item))).setCell ⟨w.heap.size + 1, 5, none⟩ (.int .u64 (h))).setCell ⟨w.heap.size + 1, 6, none⟩ (.int .u32 (link))).setCell ⟨w.heap.size + 1, 7, none⟩ (.int .i64 (tries))) := (Below.setCell (Below.setCell (Below.setCell (Below.setCell (Below.setCell (Below.setCell (Below.setCell (Below.setCell hk (p := ⟨w.heap.size + 1, 0, none⟩) (by simp) _) (p := ⟨w.heap.size + 1, 1, none⟩) (by simp) _) (p := ⟨w.heap.size + 1, 2, none⟩) (by simp) _) (p := ⟨w.heap.size + 1, 3, none⟩) (by simp) _) (p := ⟨w.heap.size + 1, 4, none⟩) (by simp) _) (p := ⟨w.heap.size + 1, 5, none⟩) (by simp) _) (p := ⟨w.heap.size + 1, 6, none⟩) (by simp) _) (p := ⟨w.heap.size + 1, 7, none⟩) (by simp) _)
    have hc9 : Chg (fun q => q = w.heap.size + 1) w3 ((((((((w3.setCell ⟨w.heap.size + 1, 0, none⟩ (.int .i64 (1))).setCell ⟨w.heap.size + 1, 1, none⟩ (.int .i64 (0))).setCell ⟨w.heap.size + 1, 2, none⟩ (.int .i64 (hd))).setCell ⟨w.heap.size + 1, 3, none⟩ (.slice ao ln cap)).setCell ⟨w.heap.size + 1, 4, none⟩ (.int .u32 (item))).setCell ⟨w.heap.size + 1, 5, none⟩ (.int .u64 (h))).setCell ⟨w.heap.size + 1, 6, none⟩ (.int .u32 (link))).setCell ⟨w.heap.size + 1, 7, none⟩ (.int .i64 (tries))) := (((((((((Chg.refl (fun q => q = w.heap.size + 1) w3).setCell ⟨w.heap.size + 1, 0, none⟩ (.int .i64 (1)) (fun _ => rfl)).setCell ⟨w.heap.size + 1, 1, none⟩ (.int .i64 (0)) (fun _ => rfl)).setCell ⟨w.heap.size + 1, 2, none⟩ (.int .i64 (hd)) (fun _ => rfl)).setCell ⟨w.heap.size + 1, 3, none⟩ (.slice ao ln cap) (fun _ => rfl)).setCell ⟨w.heap.size + 1, 4, none⟩ (.int .u32 (item)) (fun _ => rfl)).setCell ⟨w.heap.size + 1, 5, none⟩ (.int .u64 (h)) (fun _ => rfl)).setCell ⟨w.heap.size + 1, 6, none⟩ (.int .u32 (link)) (fun _ => rfl)).setCell ⟨w.heap.size + 1, 7, none⟩ (.int .i64 (tries)) (fun _ => rfl))
    have hm9 := (HM.out w (Below.refl _ _)).past hl' (by simp [mput_len]) (fun q e => by omega) hown hc9
    generalize ((((((((w3.setCell ⟨w.heap.size + 1, 0, none⟩ (.int .i64 (1))).setCell ⟨w.heap.size + 1, 1, none⟩ (.int .i64 (0))).setCell ⟨w.heap.size + 1, 2, none⟩ (.int .i64 (hd))).setCell ⟨w.heap.size + 1, 3, none⟩ (.slice ao ln cap)).setCell ⟨w.heap.size + 1, 4, none⟩ (.int .u32 (item))).setCell ⟨w.heap.size + 1, 5, none⟩ (.int .u64 (h))).setCell ⟨w.heap.size + 1, 6, none⟩ (.int .u32 (link))).setCell ⟨w.heap.size + 1, 7, none⟩ (.int .i64 (tries))) = w9 at *
    clear q0 q1 q2 q3 q4 q5 q6 q7 fq0 fq1 fq2 fq3 fq4 fq5 fq6 fq7
    have k0 := hr9.cell 0
    have k1 := hr9.cell 1
    have k2 := hr9.cell 2
    have k3 := hr9.cell 3
    have k4 := hr9.cell 4
    have k5 := hr9.cell 5
    have k6 := hr9.cell 6
    have k7 := hr9.cell 7
    simp only [List.getElem?_cons_zero, List.getElem?_cons_succ] at k0 k1 k2 k3 k4 k5 k6 k7
    exact bodyPost_ret (v := .tuple #[l', .agg ([.int .i64 (1), .int .i64 (0), .int .i64 (hd), .slice ao ln cap, .int .u32 (item), .int .u64 (h), .int .u32 (link), .int .i64 (tries)] : List Value).toArray]) (by simp [results, Tryz.results80, go_sem, k0, k1, k2, k3, k4, k5, k6, k7]) rfl ⟨_, _, rfl, hm9, ⟨⟨hi0, hi1⟩, hU, ⟨hl0, hl1⟩, 1, tries, rfl, HR.out _ hk9, fun e => e.elim, fun e => e.elim⟩, hk9, fun g e => (hown g e).imp id (fun e => by omega)⟩

set_option maxRecDepth 8000 in
set_option maxHeartbeats 1600000 in
theorem st9_popSwap {Ls mem : List Int} {s : SM} {l v vl : Value} (w : World) (h : R9 w v Ls vl s) (hm : MemV w l mem) (hall : ∀ x ∈ mem, U x) (hlen : mem.length ≤ 20000) (hp : s.pc = .popSwap) :
    Calls Tryz.prog 80 #[l, v] w fun e w' => ∃ l' v', e = .returned (.tuple #[l', v']) ∧ MemV w' l' (smStep (lkL Ls) mem s).1 ∧ R9 w' v' Ls vl (smStep (lkL Ls) mem s).2 ∧ Kept w w' ∧ (∀ g, l'.ownBlock = some g → l' = l ∨ w.heap.size ≤ g) := by
  obtain ⟨pc, hd, item, h, link⟩ := s
  simp only at hp
  subst hp
  obtain ⟨⟨hi0, hi1⟩, hU, ⟨hl0, hl1⟩, kind, tries, rfl, hrow, hpu, hpo⟩ := h
  simp only at hi0 hi1 hU hl0 hl1 hpu hpo ⊢
  obtain rfl := hpo trivial
  obtain ⟨ao, cap, hvl⟩ := hrow.form
  obtain ⟨ln, hln⟩ : ∃ ln, ln = (Ls.map (Value.int .i64)).length := ⟨_, rfl⟩
  rw [← hln] at hvl
  subst hvl
  clear hln hpu hpo
  obtain ⟨mo, mc, hmv⟩ := hm.form
  obtain ⟨ml, hml⟩ : ∃ ml, ml = (mem.map (Value.int .u64)).length := ⟨_, rfl⟩
  rw [← hml] at hmv
  subst hmv
  clear hml
  have HR : Hid (∀ W, Kept w W → Row W (.slice ao ln cap) (Ls.map (Value.int .i64))) := fun W k => hrow.kept k
  have HM : Hid (∀ W, Kept w W → MemV W (.slice mo ml mc) mem) := fun W k => hm.kept k
  clear hrow hm
  have HA : Hid (∀ x ∈ mem, U x) := hall
  clear hall
  simp only [smStep, pcN]
  have TR := fun W k => turn_ref (kind := 2) (hd := hd) (item := item) (hw := h) (link := link) (tries := tries) (low := link) W (HR.out W k) (HM.out W k) hlen hU ⟨hl0, hl1⟩
  obtain ⟨hit, hh⟩ : ∃ b, mhit mem hd h = b := ⟨_, rfl⟩
  rw [hh] at TR ⊢
  clear hh
  have hb0 := Blk.new w 55 [.int .i64 (2), .int .i64 (3), .int .i64 (hd), .slice ao ln cap, .int .u32 (item), .int .u64 (h), .int .u32 (link), .int .i64 (tries)]
  have hk0 : Kept w (w.alloc (.cells ([.int .i64 (2), .int .i64 (3), .int .i64 (hd), .slice ao ln cap, .int .u32 (item), .int .u64 (h), .int .u32 (link), .int .i64 (tries)] : List Value).toArray 55)) := (Below.refl _ _).alloc (Nat.le_refl _) _
  have z0 : (w.alloc (.cells ([.int .i64 (2), .int .i64 (3), .int .i64 (hd), .slice ao ln cap, .int .u32 (item), .int .u64 (h), .int .u32 (link), .int .i64 (tries)] : List Value).toArray 55)).heap.size = w.heap.size + 1 := by simp
  go_enter Tryz.func80, Tryz.ntmps80
  cases hit
  · simp only [Bool.false_eq_true, ↓reduceIte] at TR ⊢
    go_wp2_with fail
    generalize w.alloc (.cells ([.int .i64 (2), .int .i64 (3), .int .i64 (hd), .slice ao ln cap, .int .u32 (item), .int .u64 (h), .int .u32 (link), .int .i64 (tries)] : List Value).toArray 55) = w1 at *
    have hr0 := Blk.new w1 55 [.int .i64 0, .int .i64 0, .int .i64 0, .slice none 0 0, .int .u32 0, .int .u64 0, .int .u32 0, .int .i64 0]
    rw [z0] at hr0
    have hk1 : Kept w1 (w1.alloc (.cells ([.int .i64 0, .int .i64 0, .int .i64 0, .slice none 0 0, .int .u32 0, .int .u64 0, .int .u32 0, .int .i64 0] : List Value).toArray 55)) := (Below.refl _ _).alloc (Nat.le_refl _) _
    have z1 : (w1.alloc (.cells ([.int .i64 0, .int .i64 0, .int .i64 0, .slice none 0 0, .int .u32 0, .int .u64 0, .int .u32 0, .int .i64 0] : List Value).toArray 55)).heap.size = w.heap.size + 2 := by simp [z0]
    generalize w1.alloc (.cells ([.int .i64 0, .int .i64 0, .int .i64 0, .slice none 0 0, .int .u32 0, .int .u64 0, .int .u32 0, .int .i64 0] : List Value).toArray 55) = w2 at *
    have hb := hk1.blk hb0
    have hr := hr0
    have hk : Kept w w2 := hk0.trans' hk1
    clear hb0 hr0 hk0 hk1 z0
    have b0 := hb.cell 0
    have b1 := hb.cell 1
    have b2 := hb.cell 2
    have b3 := hb.cell 3
    have b4 := hb.cell 4
    have b5 := hb.cell 5
    have b6 := hb.cell 6
    have b7 := hb.cell 7
    simp only [List.getElem?_cons_zero, List.getElem?_cons_succ] at b0 b1 b2 b3 b4 b5 b6 b7
    go_wp2_with fail
    refine (TR w2 hk).mono ?_; rintro e w3 ⟨l', rfl, hl', hkc, hown⟩
    rw [z1] at hown
    replace hb := hkc.blk hb
    replace hr := hkc.blk hr
    replace hk := hk.trans' hkc
    clear hkc
    have q0 := hr.cell 0
    have q1 := hr.cell 1
    have q2 := hr.cell 2
    have q3 := hr.cell 3
    have q4 := hr.cell 4
    have q5 := hr.cell 5
    have q6 := hr.cell 6
    have q7 := hr.cell 7
    have fq0 := hr.free 0
    have fq1 := hr.free 1
    have fq2 := hr.free 2
    have fq3 := hr.free 3
    have fq4 := hr.free 4
    have fq5 := hr.free 5
    have fq6 := hr.free 6
    have fq7 := hr.free 7
    simp only [List.getElem?_cons_zero, List.getElem?_cons_succ] at q0 q1 q2 q3 q4 q5 q6 q7
    go_wp2_with fail
    have hr9 : Blk ((((((((w3.setCell ⟨w.heap.size + 1, 0, none⟩ (.int .i64 (2))).setCell ⟨w.heap.size + 1, 1, none⟩ (.int .i64 (1))).setCell ⟨w.heap.size + 1, 2, none⟩ (.int .i64 (hd))).setCell ⟨w.heap.size + 1, 3, none⟩ (.slice ao ln cap)).setCell ⟨w.heap.size + 1, 4, none⟩ (.int .u32 (item))).setCell ⟨w.heap.size + 1, 5, none⟩ (.int .u64 (h))).setCell ⟨w.heap.size + 1, 6, none⟩ (.int .u32 (link))).setCell ⟨w.heap.size + 1, 7, none⟩ (.int .i64 (tries))) (w.heap.size + 1) 55 [.int .i64 (2), .int .i64 (1), .int .i64 (hd), .slice ao ln cap, .int .u32 (item), .int .u64 (h), .int .u32 (link), .int .i64 (tries)] := ((((((((hr.set' 0 (.int .i64 (2)) rfl).set' 1 (.int .i64 (1)) rfl).set' 2 (.int .i64 (hd)) rfl).set' 3 (.slice ao ln cap) rfl).set' 4 (.int .u32 (item)) rfl).set' 5 (.int .u64 (h)) rfl).set' 6 (.int .u32 (link)) rfl).set' 7 (.int .i64 (tries)) rfl)
    have hk9 : Kept w ((((((((w3.setCell ⟨w.heap.size + 1, 0, none⟩ (.int .i64 (2))).setCell ⟨w.heap.size + 1, 1, none⟩ (.int .i64 (1))).setCell ⟨w.heap.size + 1, 2, none⟩ (.int .i64 (hd))).setCell ⟨w.heap.size + 1, 3, none⟩ (.slice ao ln cap)).setCell ⟨w.heap.size + 1, 4, none⟩ (.int .u32 (item))).setCell ⟨w.heap.size + 1, 5, none⟩ (.int .u64 (h))).setCell ⟨w.heap.size + 1, 6, none⟩ (.int .u32 (link))).setCell ⟨w.heap.size + 1, 7, none⟩ (.int .i64 (tries))) := (Below.setCell (Below.setCell (Below.setCell (Below.setCell (Below.setCell (Below.setCell (Below.setCell (Below.setCell hk (p := ⟨w.heap.size + 1, 0, none⟩) (by simp) _) (p := ⟨w.heap.size + 1, 1, none⟩) (by simp) _) (p := ⟨w.heap.size + 1, 2, none⟩) (by simp) _) (p := ⟨w.heap.size + 1, 3, none⟩) (by simp) _) (p := ⟨w.heap.size + 1, 4, none⟩) (by simp) _) (p := ⟨w.heap.size + 1, 5, none⟩) (by simp) _) (p := ⟨w.heap.size + 1, 6, none⟩) (by simp) _) (p := ⟨w.heap.size + 1, 7, none⟩) (by simp) _)
    have hc9 : Chg (fun q => q = w.heap.size + 1) w3 ((((((((w3.setCell ⟨w.heap.size + 1, 0, none⟩ (.int .i64 (2))).setCell ⟨w.heap.size + 1, 1, none⟩ (.int .i64 (1))).setCell ⟨w.heap.size + 1, 2, none⟩ (.int .i64 (hd))).setCell ⟨w.heap.size + 1, 3, none⟩ (.slice ao ln cap)).setCell ⟨w.heap.size + 1, 4, none⟩ (.int .u32 (item))).setCell ⟨w.heap.size + 1, 5, none⟩ (.int .u64 (h))).setCell ⟨w.heap.size + 1, 6, none⟩ (.int .u32 (link))).setCell ⟨w.heap.size + 1, 7, none⟩ (.int .i64 (tries))) := (((((((((Chg.refl (fun q => q = w.heap.size + 1) w3).setCell ⟨w.heap.size + 1, 0, none⟩ (.int .i64 (2)) (fun _ => rfl)).setCell ⟨w.heap.size + 1, 1, none⟩ (.int .i64 (1)) (fun _ => rfl)).setCell ⟨w.heap.size + 1, 2, none⟩ (.int .i64 (hd)) (fun _ => rfl)).setCell ⟨w.heap.size + 1, 3, none⟩ (.slice ao ln cap) (fun _ => rfl)).setCell ⟨w.heap.size + 1, 4, none⟩ (.int .u32 (item)) (fun _ => rfl)).setCell ⟨w.heap.size + 1, 5, none⟩ (.int .u64 (h)) (fun _ => rfl)).setCell ⟨w.heap.size + 1, 6, none⟩ (.int .u32 (link)) (fun _ => rfl)).setCell ⟨w.heap.size + 1, 7, none⟩ (.int .i64 (tries)) (fun _ => rfl))
    have hm9 := (HM.out w (Below.refl _ _)).past hl' (by simp []) (fun q e => by omega) hown hc9
    generalize ((((((((w3.setCell ⟨w.heap.size + 1, 0, none⟩ (.int .i64 (2))).setCell ⟨w.heap.size + 1, 1, none⟩ (.int .i64 (1))).setCell ⟨w.heap.size + 1, 2, none⟩ (.int .i64 (hd))).setCell ⟨w.heap.size + 1, 3, none⟩ (.slice ao ln cap)).setCell ⟨w.heap.size + 1, 4, none⟩ (.int .u32 (item))).setCell ⟨w.heap.size + 1, 5, none⟩ (.int .u64 (h))).setCell ⟨w.heap.size + 1, 6, none⟩ (.int .u32 (link))).setCell ⟨w.heap.size + 1, 7, none⟩ (.int .i64 (tries))) = w9 at *
    clear q0 q1 q2 q3 q4 q5 q6 q7 fq0 fq1 fq2 fq3 fq4 fq5 fq6 fq7
    have k0 := hr9.cell 0
    have k1 := hr9.cell 1
    have k2 := hr9.cell 2
    have k3 := hr9.cell 3
    have k4 := hr9.cell 4
    have k5 := hr9.cell 5
    have k6 := hr9.cell 6
    have k7 := hr9.cell 7
    simp only [List.getElem?_cons_zero, List.getElem?_cons_succ] at k0 k1 k2 k3 k4 k5 k6 k7
    exact bodyPost_ret (v := .tuple #[l', .agg ([.int .i64 (2), .int .i64 (1), .int .i64 (hd), .slice ao ln cap, .int .u32 (item), .int .u64 (h), .int .u32 (link), .int .i64 (tries)] : List Value).toArray]) (by simp [results, Tryz.results80, go_sem, k0, k1, k2, k3, k4, k5, k6, k7]) rfl ⟨_, _, rfl, hm9, ⟨⟨hi0, hi1⟩, hU, ⟨hl0, hl1⟩, 2, tries, rfl, HR.out _ hk9, fun e => e.elim, fun _ => rfl⟩, hk9, fun g e => (hown g e).imp id (fun e => by omega)⟩
  · simp only [↓reduceIte] at TR ⊢
    go_wp2_with fail
    generalize w.alloc (.cells ([.int .i64 (2), .int .i64 (3), .int .i64 (hd), .slice ao ln cap, .int .u32 (item), .int .u64 (h), .int .u32 (link), .int .i64 (tries)] : List Value).toArray 55) = w1 at *
    have hr0 := Blk.new w1 55 [.int .i64 0, .int .i64 0, .int .i64 0, .slice none 0 0, .int .u32 0, .int .u64 0, .int .u32 0, .int .i64 0]
    rw [z0] at hr0
    have hk1 : Kept w1 (w1.alloc (.cells ([.int .i64 0, .int .i64 0, .int .i64 0, .slice none 0 0, .int .u32 0, .int .u64 0, .int .u32 0, .int .i64 0] : List Value).toArray 55)) := (Below.refl _ _).alloc (Nat.le_refl _) _
    have z1 : (w1.alloc (.cells ([.int .i64 0, .int .i64 0, .int .i64 0, .slice none 0 0, .int .u32 0, .int .u64 0, .int .u32 0, .int .i64 0] : List Value).toArray 55)).heap.size = w.heap.size + 2 := by simp [z0]
    generalize w1.alloc (.cells ([.int .i64 0, .int .i64 0, .int .i64 0, .slice none 0 0, .int .u32 0, .int .u64 0, .int .u32 0, .int .i64 0] : List Value).toArray 55) = w2 at *
    have hb := hk1.blk hb0
    have hr := hr0
    have hk : Kept w w2 := hk0.trans' hk1
    clear hb0 hr0 hk0 hk1 z0
    have b0 := hb.cell 0
    have b1 := hb.cell 1
    have b2 := hb.cell 2
    have b3 := hb.cell 3
    have b4 := hb.cell 4
    have b5 := hb.cell 5
    have b6 := hb.cell 6
    have b7 := hb.cell 7
    simp only [List.getElem?_cons_zero, List.getElem?_cons_succ] at b0 b1 b2 b3 b4 b5 b6 b7
    go_wp2_with fail
    refine (TR w2 hk).mono ?_; rintro e w3 ⟨l', rfl, hl', hkc, hown⟩
    rw [z1] at hown
    replace hb := hkc.blk hb
    replace hr := hkc.blk hr
    replace hk := hk.trans' hkc
    clear hkc
    have q0 := hr.cell 0
    have q1 := hr.cell 1
    have q2 := hr.cell 2
    have q3 := hr.cell 3
    have q4 := hr.cell 4
    have q5 := hr.cell 5
    have q6 := hr.cell 6
    have q7 := hr.cell 7
    have fq0 := hr.free 0
    have fq1 := hr.free 1
    have fq2 := hr.free 2
    have fq3 := hr.free 3
    have fq4 := hr.free 4
    have fq5 := hr.free 5
    have fq6 := hr.free 6
    have fq7 := hr.free 7
    simp only [List.getElem?_cons_zero, List.getElem?_cons_succ] at q0 q1 q2 q3 q4 q5 q6 q7
    go_wp2_with fail
    have hr9 : Blk ((((((((w3.setCell ⟨w.heap.size + 1, 0, none⟩ (.int .i64 (2))).setCell ⟨w.heap.size + 1, 1, none⟩ (.int .i64 (0))).setCell ⟨w.heap.size + 1, 2, none⟩ (.int .i64 (hd))).setCell ⟨w.heap.size + 1, 3, none⟩ (.slice ao ln cap)).setCell ⟨w.heap.size + 1, 4, none⟩ (.int .u32 (item))).setCell ⟨w.heap.size + 1, 5, none⟩ (.int .u64 (h))).setCell ⟨w.heap.size + 1, 6, none⟩ (.int .u32 (link))).setCell ⟨w.heap.size + 1, 7, none⟩ (.int .i64 (tries))) (w.heap.size + 1) 55 [.int .i64 (2), .int .i64 (0), .int .i64 (hd), .slice ao ln cap, .int .u32 (item), .int .u64 (h), .int .u32 (link), .int .i64 (tries)] := ((((((((hr.set' 0 (.int .i64 (2)) rfl).set' 1 (.int .i64 (0)) rfl).set' 2 (.int .i64 (hd)) rfl).set' 3 (.slice ao ln cap) rfl).set' 4 (.int .u32 (item)) rfl).set' 5 (.int .u64 (h)) rfl).set' 6 (.int .u32 (link)) rfl).set' 7 (.int .i64 (tries)) rfl)
    have hk9 : Kept w ((((((((w3.setCell ⟨w.heap.size + 1, 0, none⟩ (.int .i64 (2))).setCell ⟨w.heap.size + 1, 1, none⟩ (.int .i64 (0))).setCell ⟨w.heap.size + 1, 2, none⟩ (.int .i64 (hd))).setCell ⟨w.heap.size + 1, 3, none⟩ (.slice ao ln cap)).setCell ⟨w.heap.size + 1, 4, none⟩ (.int .u32 (item))).setCell ⟨w.heap.size + 1, 5, none⟩ (.int .u64 (h))).setCell ⟨w.heap.size + 1, 6, none⟩ (.int .u32 (link))).setCell ⟨w.heap.size + 1, 7, none⟩ (.int .i64 (tries))) := (Below.setCell (Below.setCell (Below.setCell (Below.setCell (Below.setCell (Below.setCell (Below.setCell (Below.setCell hk (p := ⟨w.heap.size + 1, 0, none⟩) (by simp) _) (p := ⟨w.heap.size + 1, 1, none⟩) (by simp) _) (p := ⟨w.heap.size + 1, 2, none⟩) (by simp) _) (p := ⟨w.heap.size + 1, 3, none⟩) (by simp) _) (p := ⟨w.heap.size + 1, 4, none⟩) (by simp) _) (p := ⟨w.heap.size + 1, 5, none⟩) (by simp) _) (p := ⟨w.heap.size + 1, 6, none⟩) (by simp) _) (p := ⟨w.heap.size + 1, 7, none⟩) (by simp) _)
    have hc9 : Chg (fun q => q = w.heap.size + 1) w3 ((((((((w3.setCell ⟨w.heap.size + 1, 0, none⟩ (.int .i64 (2))).setCell ⟨w.heap.size + 1, 1, none⟩ (.int .i64 (0))).setCell ⟨w.heap.size + 1, 2, none⟩ (.int .i64 (hd))).setCell ⟨w.heap.size + 1, 3, none⟩ (.slice ao ln cap)).setCell ⟨w.heap.size + 1, 4, none⟩ (.int .u32 (item))).setCell ⟨w.heap.size + 1, 5, none⟩ (.int .u64 (h))).setCell ⟨w.heap.size + 1, 6, none⟩ (.int .u32 (link))).setCell ⟨w.heap.size + 1, 7, none⟩ (.int .i64 (tries))) := (((((((((Chg.refl (fun q => q = w.heap.size + 1) w3).setCell ⟨w.heap.size + 1, 0, none⟩ (.int .i64 (2)) (fun _ => rfl)).setCell ⟨w.heap.size + 1, 1, none⟩ (.int .i64 (0)) (fun _ => rfl)).setCell ⟨w.heap.size + 1, 2, none⟩ (.int .i64 (hd)) (fun _ => rfl)).setCell ⟨w.heap.size + 1, 3, none⟩ (.slice ao ln cap) (fun _ => rfl)).setCell ⟨w.heap.size + 1, 4, none⟩ (.int .u32 (item)) (fun _ => rfl)).setCell ⟨w.heap.size + 1, 5, none⟩ (.int .u64 (h)) (fun _ => rfl)).setCell ⟨w.heap.size + 1, 6, none⟩ (.int .u32 (link)) (fun _ => rfl)).setCell ⟨w.heap.size + 1, 7, none⟩ (.int .i64 (tries)) (fun _ => rfl))
    have hm9 := (HM.out w (Below.refl _ _)).past hl' (by simp [mput_len]) (fun q e => by omega) hown hc9
    generalize ((((((((w3.setCell ⟨w.heap.size + 1, 0, none⟩ (.int .i64 (2))).setCell ⟨w.heap.size + 1, 1, none⟩ (.int .i64 (0))).setCell ⟨w.heap.size + 1, 2, none⟩ (.int .i64 (hd))).setCell ⟨w.heap.size + 1, 3, none⟩ (.slice ao ln cap)).setCell ⟨w.heap.size + 1, 4, none⟩ (.int .u32 (item))).setCell ⟨w.heap.size + 1, 5, none⟩ (.int .u64 (h))).setCell ⟨w.heap.size + 1, 6, none⟩ (.int .u32 (link))).setCell ⟨w.heap.size + 1, 7, none⟩ (.int .i64 (tries))) = w9 at *
    clear q0 q1 q2 q3 q4 q5 q6 q7 fq0 fq1 fq2 fq3 fq4 fq5 fq6 fq7
    have k0 := hr9.cell 0
    have k1 := hr9.cell 1
    have k2 := hr9.cell 2
    have k3 := hr9.cell 3
    have k4 := hr9.cell 4
    have k5 := hr9.cell 5
    have k6 := hr9.cell 6
    have k7 := hr9.cell 7
    simp only [List.getElem?_cons_zero, List.getElem?_cons_succ] at k0 k1 k2 k3 k4 k5 k6 k7
    exact bodyPost_ret (v := .tuple #[l', .agg ([.int .i64 (2), .int .i64 (0), .int .i64 (hd), .slice ao ln cap, .int .u32 (item), .int .u64 (h), .int .u32 (link), .int .i64 (tries)] : List Value).toArray]) (by simp [results, Tryz.results80, go_sem, k0, k1, k2, k3, k4, k5, k6, k7]) rfl ⟨_, _, rfl, hm9, ⟨⟨hi0, hi1⟩, hU, ⟨hl0, hl1⟩, 2, tries, rfl, HR.out _ hk9, fun e => e.elim, fun e => e.elim⟩, hk9, fun g e => (hown g e).imp id (fun e => by omega)⟩

end Go.Proofs.YtfbcadknimfhjaaGreat
