/- The document's stack: its machine: walked. -/
import Derived.Test.YtfbcadknimfhjaaGreatPkR
namespace Go.Proofs.YtfbcadknimfhjaaGreat
open Go.RowKit

/-- A thing's link, of a list of places. -/
def lkL (Ls : List Int) (p : Int) : Int := if 1 ≤ p ∧ p ≤ Ls.length then Ls[(p - 1).toNat]?.getD 0 else -1

theorem lkL_packs {c : Cfg} (hg : Good c) : lkL (linksL c) = lnk c := by
  have hmb := manyI_bound hg
  funext p
  unfold lkL
  rw [linksL_len]
  show _ = pPack c p 1
  split
  · next h =>
    rw [linksL_get (by omega), show (((p - 1).toNat : Nat) : Int) + 1 = p from by omega]
  · next h =>
    unfold pPack
    rw [if_neg (by omega)]

def pcN : SPc → Int
  | .done => 0
  | .pushHead => 1
  | .pushLink => 2
  | .pushSwap => 3
  | .popHead => 1
  | .popLink => 2
  | .popSwap => 3

def SPc.pushes : SPc → Prop
  | .pushHead => True
  | .pushLink => True
  | .pushSwap => True
  | _ => False

def SPc.pops : SPc → Prop
  | .popHead => True
  | .popLink => True
  | .popSwap => True
  | _ => False

abbrev r9L (kind pc hd : Int) (vl : Value) (i h l tries : Int) : List Value := [.int .i64 kind, .int .i64 pc, .int .i64 hd, vl, .int .u32 i, .int .u64 h, .int .u32 l, .int .i64 tries]

/-- The document's machine, as a value. -/
structure R9 (w : World) (v : Value) (Ls : List Int) (vl : Value) (s : SM) : Prop where
  item : 0 ≤ s.item ∧ s.item < 4294967296
  h : U s.h
  link : 0 ≤ s.link ∧ s.link < 4294967296
  ex : ∃ kind tries, v = .agg (r9L kind (pcN s.pc) s.head vl s.item s.h s.link tries).toArray ∧ Row w vl (Ls.map (Value.int .i64)) ∧ (s.pc.pushes → kind = 1) ∧ (s.pc.pops → kind = 2)

theorem R9.kept {w w' : World} {v vl : Value} {Ls : List Int} {s : SM} (h : R9 w v Ls vl s) (k : Kept w w') : R9 w' v Ls vl s := by
  obtain ⟨h1, h2, h3, kind, tries, h4, h5, h6⟩ := h
  exact ⟨h1, h2, h3, kind, tries, h4, h5.kept k, h6⟩

theorem R9.chg {w w' : World} {v vl : Value} {Ls : List Int} {s : SM} {S : Nat → Prop} (h : R9 w v Ls vl s) (k : Chg S w w') (hn : 0 < Ls.length → ∀ g, vl.ownBlock = some g → ¬ S g) : R9 w' v Ls vl s := by
  obtain ⟨h1, h2, h3, kind, tries, h4, h5, h6⟩ := h
  exact ⟨h1, h2, h3, kind, tries, h4, h5.chgR k (fun hp => hn (by simpa using hp)), h6⟩

theorem R9.row {w : World} {v vl : Value} {Ls : List Int} {s : SM} (h : R9 w v Ls vl s) : Row w vl (Ls.map (Value.int .i64)) := by
  obtain ⟨_, _, _, _, _, _, h5, _⟩ := h
  exact h5

theorem Row.form {w : World} {v : Value} {xs : List Value} (h : Row w v xs) : ∃ ao cap, v = .slice ao xs.length cap := by
  obtain ⟨ao, cap, h1, _⟩ := h.ex
  exact ⟨ao, cap, h1⟩

theorem row_int_at {w : World} {ao : Option Addr} {n cap : Nat} {xs : List Int} (h : Row w (.slice ao n cap) (xs.map (Value.int .i64))) : n = xs.length ∧ ∀ i, i < xs.length → ∃ g, ao = some ⟨g, 0, none⟩ ∧ w.cell? ⟨g, i, none⟩ = some (.int .i64 (xs[i]?.getD 0)) := by
  obtain ⟨ao', cap', hv, hm, hc⟩ := h.ex
  simp at hv
  obtain ⟨rfl, rfl, rfl⟩ := hv
  refine ⟨rfl, fun i hi => ?_⟩
  obtain ⟨g, e, _, h⟩ := hc i (.int .i64 (xs[i]'hi)) (by simp [List.getElem?_eq_getElem hi])
  exact ⟨g, e, by rw [h, List.getElem?_eq_getElem hi]; rfl⟩

theorem Kept.cellK {w w' : World} (k : Kept w w') {g i : Nat} {v : Value} (h : w.cell? ⟨g, i, none⟩ = some v) : w'.cell? ⟨g, i, none⟩ = some v := by rw [Below.cell k (World.block_lt_of_cell? w ⟨g, i, none⟩ h)]; exact h

/-- A link's place. -/
theorem kAt_ref {Ls : List Int} {vl : Value} (hd item : Int) (w : World) (h : Row w vl (Ls.map (Value.int .i64))) (hi : 0 ≤ item ∧ item < 4294967296) :
    Calls Tryz.prog 99 #[.agg #[.int .i64 hd, vl], .int .u32 item] w fun e w' => e = .returned (.int .i64 (lkL Ls item)) ∧ Kept w w' := by
  obtain ⟨ao, cap, rfl⟩ := h.form
  obtain ⟨hn, hc⟩ := row_int_at h
  have hlm : (Ls.length : Int) ≤ 9223372036854775807 := by
    obtain ⟨_, _, _, hm, _⟩ := h.ex
    simp at hm
    unfold maxLen at hm; omega
  rw [hn]
  have hb := Blk.new w 52 [.int .i64 hd, .slice ao Ls.length cap]
  have hk0 : Kept w (w.alloc (.cells ([.int .i64 hd, .slice ao Ls.length cap] : List Value).toArray 52)) := (Below.refl _ _).alloc (Nat.le_refl _) _
  have HC : Hid (∀ i, i < Ls.length → ∃ g, ao = some ⟨g, 0, none⟩ ∧ w.cell? ⟨g, i, none⟩ = some (.int .i64 (Ls[i]?.getD 0))) := hc
  clear hc h hn
  obtain ⟨hi0, hi1⟩ := hi
  have y1 : IntKind.i64.wrap item = item := IntWalk.i64_in _ (by omega)
  by_cases h1 : item < 1
  · have HK : Hid (lkL Ls item = -1) := if_neg (by omega)
    go_enter Tryz.func99, Tryz.ntmps99
    go_wp2_with fail
    go_ret
    exact ⟨by rw [HK.out]; rfl, hk0⟩
  · by_cases h2 : item > Ls.length
    · have HK : Hid (lkL Ls item = -1) := if_neg (by omega)
      go_enter Tryz.func99, Tryz.ntmps99
      go_wp2_with fail
      go_ret
      exact ⟨by rw [HK.out]; rfl, hk0⟩
    · obtain ⟨k, rfl⟩ : ∃ k : Nat, item = (k : Int) + 1 := ⟨(item - 1).toNat, by omega⟩
      have HK : Hid (lkL Ls ((k : Int) + 1) = Ls[k]?.getD 0) := by unfold Hid lkL; rw [if_pos (by omega), show ((k : Int) + 1 - 1).toNat = k from by omega]
      obtain ⟨g, rfl, hcell⟩ := HC.out k (by omega)
      have hcell' := Kept.cellK hk0 hcell
      generalize Ls[k]?.getD 0 = y at *
      have y2 : IntKind.i64.wrap ((k : Int) + 1 - 1) = k := by rw [show (k : Int) + 1 - 1 = k from by omega]; exact IntWalk.i64_in _ (by omega)
      have hk00 : (0 : Int) ≤ k := by omega
      have hkl : (k : Int) < Ls.length := by omega
      clear HC
      go_enter Tryz.func99, Tryz.ntmps99
      go_wp2_with fail
      go_ret
      exact ⟨by rw [HK.out]; rfl, hk0⟩

set_option maxRecDepth 8000 in
set_option maxHeartbeats 1600000 in
theorem st9_pushHead {Ls mem : List Int} {s : SM} {l v vl : Value} (w : World) (h : R9 w v Ls vl s) (hm : MemV w l mem) (hall : ∀ x ∈ mem, U x) (_hlen : mem.length ≤ 20000) (hp : s.pc = .pushHead) :
    Calls Tryz.prog 80 #[l, v] w fun e w' => ∃ l' v', e = .returned (.tuple #[l', v']) ∧ MemV w' l' (smStep (lkL Ls) mem s).1 ∧ R9 w' v' Ls vl (smStep (lkL Ls) mem s).2 ∧ Kept w w' ∧ (∀ g, l'.ownBlock = some g → l' = l ∨ w.heap.size ≤ g) := by
  obtain ⟨pc, hd, item, h, link⟩ := s
  simp only at hp
  subst hp
  obtain ⟨⟨hi0, hi1⟩, hU, ⟨hl0, hl1⟩, kind, tries, rfl, hrow, hpu, hpo⟩ := h
  simp only at hi0 hi1 hU hl0 hl1 hpu hpo ⊢
  obtain rfl := hpu trivial
  obtain ⟨ao, cap, hvl⟩ := hrow.form
  obtain ⟨ln, hln⟩ : ∃ ln, ln = (Ls.map (Value.int .i64)).length := ⟨_, rfl⟩
  rw [← hln] at hvl
  subst hvl
  clear hln hpu hpo
  obtain ⟨mo, mc, hmv⟩ := hm.form
  obtain ⟨ml, hml⟩ : ∃ ml, ml = (mem.map (Value.int .u64)).length := ⟨_, rfl⟩
  rw [← hml] at hmv
  subst hmv
  clear hml
  have HR : Hid (∀ W, Kept w W → Row W (.slice ao ln cap) (Ls.map (Value.int .i64))) := fun W k => hrow.kept k
  have HM : Hid (∀ W, Kept w W → MemV W (.slice mo ml mc) mem) := fun W k => hm.kept k
  clear hrow hm
  have HA : Hid (∀ x ∈ mem, U x) := hall
  clear hall
  simp only [smStep, pcN]
  obtain ⟨x, hx⟩ : ∃ x, mget mem hd = x := ⟨_, rfl⟩
  have HX : Hid (mget mem hd = x) := hx
  have hUx : U x := hx ▸ mget_all HA.out hd
  have hlx := loI_bound x
  rw [hx]
  clear hx
  obtain ⟨tr, htr⟩ : ∃ tr : Int, IntKind.i64.wrap (tries + 1) = tr := ⟨_, rfl⟩
  have hb0 := Blk.new w 55 [.int .i64 (1), .int .i64 (1), .int .i64 (hd), .slice ao ln cap, .int .u32 (item), .int .u64 (h), .int .u32 (link), .int .i64 (tr)]
  have hk0 : Kept w (w.alloc (.cells ([.int .i64 (1), .int .i64 (1), .int .i64 (hd), .slice ao ln cap, .int .u32 (item), .int .u64 (h), .int .u32 (link), .int .i64 (tr)] : List Value).toArray 55)) := (Below.refl _ _).alloc (Nat.le_refl _) _
  have z0 : (w.alloc (.cells ([.int .i64 (1), .int .i64 (1), .int .i64 (hd), .slice ao ln cap, .int .u32 (item), .int .u64 (h), .int .u32 (link), .int .i64 (tr)] : List Value).toArray 55)).heap.size = w.heap.size + 1 := by simp
  go_enter Tryz.func80, Tryz.ntmps80
  go_wp2_with fail
  generalize w.alloc (.cells ([.int .i64 (1), .int .i64 (1), .int .i64 (hd), .slice ao ln cap, .int .u32 (item), .int .u64 (h), .int .u32 (link), .int .i64 (tr)] : List Value).toArray 55) = w1 at *
  have hr0 := Blk.new w1 55 [.int .i64 0, .int .i64 0, .int .i64 0, .slice none 0 0, .int .u32 0, .int .u64 0, .int .u32 0, .int .i64 0]
  rw [z0] at hr0
  have hk1 : Kept w1 (w1.alloc (.cells ([.int .i64 0, .int .i64 0, .int .i64 0, .slice none 0 0, .int .u32 0, .int .u64 0, .int .u32 0, .int .i64 0] : List Value).toArray 55)) := (Below.refl _ _).alloc (Nat.le_refl _) _
  have z1 : (w1.alloc (.cells ([.int .i64 0, .int .i64 0, .int .i64 0, .slice none 0 0, .int .u32 0, .int .u64 0, .int .u32 0, .int .i64 0] : List Value).toArray 55)).heap.size = w.heap.size + 2 := by simp [z0]
  generalize w1.alloc (.cells ([.int .i64 0, .int .i64 0, .int .i64 0, .slice none 0 0, .int .u32 0, .int .u64 0, .int .u32 0, .int .i64 0] : List Value).toArray 55) = w2 at *
  have hb := hk1.blk hb0
  have hr := hr0
  have hk : Kept w w2 := hk0.trans' hk1
  clear hb0 hr0 hk0 hk1 z0
  refine (loadL_ref hd w2 (HM.out w2 hk)).mono ?_; rintro e wx ⟨rfl, rfl⟩
  rw [HX.out]
  have b0 := hb.cell 0
  have b1 := hb.cell 1
  have b2 := hb.cell 2
  have b3 := hb.cell 3
  have b4 := hb.cell 4
  have b5 := hb.cell 5
  have b6 := hb.cell 6
  have b7 := hb.cell 7
  have fb5 := hb.free 5
  simp only [List.getElem?_cons_zero, List.getElem?_cons_succ] at b0 b1 b2 b3 b4 b5 b6 b7
  go_wp2_with fail
  clear b0 b1 b2 b3 b4 b5 b6 b7 fb5
  have hb3 : Blk (w2.setCell ⟨w.heap.size, 5, none⟩ (.int .u64 (x))) (w.heap.size) 55 [.int .i64 (1), .int .i64 (1), .int .i64 (hd), .slice ao ln cap, .int .u32 (item), .int .u64 (x), .int .u32 (link), .int .i64 (tr)] := (hb.set' 5 (.int .u64 (x)) rfl)
  have hcx := ((Chg.refl (fun q => q = w.heap.size) w2).setCell ⟨w.heap.size, 5, none⟩ (.int .u64 (x)) (fun _ => rfl))
  replace hr := hcx.blk hr (by simp)
  replace hk := hk.trans (hcx.toBelow (B := w.heap.size) (by have := hk.size; omega) (fun q hq e => by omega))
  generalize (w2.setCell ⟨w.heap.size, 5, none⟩ (.int .u64 (x))) = w3 at *
  clear hcx hb
  have hb := hb3
  clear hb3
  refine (low_ref x w3 hUx).mono ?_; rintro e wx ⟨rfl, rfl⟩
  have b0 := hb.cell 0
  have b1 := hb.cell 1
  have b2 := hb.cell 2
  have b3 := hb.cell 3
  have b4 := hb.cell 4
  have b5 := hb.cell 5
  have b6 := hb.cell 6
  have b7 := hb.cell 7
  have fb1 := hb.free 1
  have fb6 := hb.free 6
  simp only [List.getElem?_cons_zero, List.getElem?_cons_succ] at b0 b1 b2 b3 b4 b5 b6 b7
  go_wp2_with fail
  clear b0 b1 b2 b3 b4 b5 b6 b7 fb1 fb6
  have hb4 : Blk ((w3.setCell ⟨w.heap.size, 1, none⟩ (.int .i64 (2))).setCell ⟨w.heap.size, 6, none⟩ (.int .u32 (loI x))) (w.heap.size) 55 [.int .i64 (1), .int .i64 (2), .int .i64 (hd), .slice ao ln cap, .int .u32 (item), .int .u64 (x), .int .u32 (loI x), .int .i64 (tr)] := ((hb.set' 1 (.int .i64 (2)) rfl).set' 6 (.int .u32 (loI x)) rfl)
  have hcx := (((Chg.refl (fun q => q = w.heap.size) w3).setCell ⟨w.heap.size, 1, none⟩ (.int .i64 (2)) (fun _ => rfl)).setCell ⟨w.heap.size, 6, none⟩ (.int .u32 (loI x)) (fun _ => rfl))
  replace hr := hcx.blk hr (by simp)
  replace hk := hk.trans (hcx.toBelow (B := w.heap.size) (by have := hk.size; omega) (fun q hq e => by omega))
  generalize ((w3.setCell ⟨w.heap.size, 1, none⟩ (.int .i64 (2))).setCell ⟨w.heap.size, 6, none⟩ (.int .u32 (loI x))) = w4 at *
  clear hcx hb
  have hb := hb4
  clear hb4
  have b0 := hb.cell 0
  have b1 := hb.cell 1
  have b2 := hb.cell 2
  have b3 := hb.cell 3
  have b4 := hb.cell 4
  have b5 := hb.cell 5
  have b6 := hb.cell 6
  have b7 := hb.cell 7
  simp only [List.getElem?_cons_zero, List.getElem?_cons_succ] at b0 b1 b2 b3 b4 b5 b6 b7
  have r0 := hr.cell 0
  have r1 := hr.cell 1
  have r2 := hr.cell 2
  have r3 := hr.cell 3
  have r4 := hr.cell 4
  have r5 := hr.cell 5
  have r6 := hr.cell 6
  have r7 := hr.cell 7
  have fr0 := hr.free 0
  have fr1 := hr.free 1
  have fr2 := hr.free 2
  have fr3 := hr.free 3
  have fr4 := hr.free 4
  have fr5 := hr.free 5
  have fr6 := hr.free 6
  have fr7 := hr.free 7
  simp only [List.getElem?_cons_zero, List.getElem?_cons_succ] at r0 r1 r2 r3 r4 r5 r6 r7
  have hbD := hb.drew
  have hrD := hr.drew
  have d0 := hbD.cell 0
  have d1 := hbD.cell 1
  have d2 := hbD.cell 2
  have d3 := hbD.cell 3
  have d4 := hbD.cell 4
  have d5 := hbD.cell 5
  have d6 := hbD.cell 6
  have d7 := hbD.cell 7
  simp only [List.getElem?_cons_zero, List.getElem?_cons_succ] at d0 d1 d2 d3 d4 d5 d6 d7
  have s0 := hrD.cell 0
  have s1 := hrD.cell 1
  have s2 := hrD.cell 2
  have s3 := hrD.cell 3
  have s4 := hrD.cell 4
  have s5 := hrD.cell 5
  have s6 := hrD.cell 6
  have s7 := hrD.cell 7
  have fs0 := hrD.free 0
  have fs1 := hrD.free 1
  have fs2 := hrD.free 2
  have fs3 := hrD.free 3
  have fs4 := hrD.free 4
  have fs5 := hrD.free 5
  have fs6 := hrD.free 6
  have fs7 := hrD.free 7
  simp only [List.getElem?_cons_zero, List.getElem?_cons_succ] at s0 s1 s2 s3 s4 s5 s6 s7
  go_wp2_with fail
  go_region
  have hr9 : Blk (((((((((w4.setCell ⟨w.heap.size + 1, 0, none⟩ (.int .i64 (1))).setCell ⟨w.heap.size + 1, 1, none⟩ (.int .i64 (2))).setCell ⟨w.heap.size + 1, 2, none⟩ (.int .i64 (hd))).setCell ⟨w.heap.size + 1, 3, none⟩ (.slice ao ln cap)).setCell ⟨w.heap.size + 1, 4, none⟩ (.int .u32 (item))).setCell ⟨w.heap.size + 1, 5, none⟩ (.int .u64 (x))).setCell ⟨w.heap.size + 1, 6, none⟩ (.int .u32 (loI x))).setCell ⟨w.heap.size + 1, 7, none⟩ (.int .i64 (tr)))).drew (w.heap.size + 1) 55 [.int .i64 (1), .int .i64 (2), .int .i64 (hd), .slice ao ln cap, .int .u32 (item), .int .u64 (x), .int .u32 (loI x), .int .i64 (tr)] := (((((((((hr.set' 0 (.int .i64 (1)) rfl).set' 1 (.int .i64 (2)) rfl).set' 2 (.int .i64 (hd)) rfl).set' 3 (.slice ao ln cap) rfl).set' 4 (.int .u32 (item)) rfl).set' 5 (.int .u64 (x)) rfl).set' 6 (.int .u32 (loI x)) rfl).set' 7 (.int .i64 (tr)) rfl)).drew
  have hk9 : Kept w (((((((((w4.setCell ⟨w.heap.size + 1, 0, none⟩ (.int .i64 (1))).setCell ⟨w.heap.size + 1, 1, none⟩ (.int .i64 (2))).setCell ⟨w.heap.size + 1, 2, none⟩ (.int .i64 (hd))).setCell ⟨w.heap.size + 1, 3, none⟩ (.slice ao ln cap)).setCell ⟨w.heap.size + 1, 4, none⟩ (.int .u32 (item))).setCell ⟨w.heap.size + 1, 5, none⟩ (.int .u64 (x))).setCell ⟨w.heap.size + 1, 6, none⟩ (.int .u32 (loI x))).setCell ⟨w.heap.size + 1, 7, none⟩ (.int .i64 (tr)))).drew := Below.drew (Below.setCell (Below.setCell (Below.setCell (Below.setCell (Below.setCell (Below.setCell (Below.setCell (Below.setCell hk (p := ⟨w.heap.size + 1, 0, none⟩) (by simp) _) (p := ⟨w.heap.size + 1, 1, none⟩) (by simp) _) (p := ⟨w.heap.size + 1, 2, none⟩) (by simp) _) (p := ⟨w.heap.size + 1, 3, none⟩) (by simp) _) (p := ⟨w.heap.size + 1, 4, none⟩) (by simp) _) (p := ⟨w.heap.size + 1, 5, none⟩) (by simp) _) (p := ⟨w.heap.size + 1, 6, none⟩) (by simp) _) (p := ⟨w.heap.size + 1, 7, none⟩) (by simp) _)
  generalize (((((((((w4.setCell ⟨w.heap.size + 1, 0, none⟩ (.int .i64 (1))).setCell ⟨w.heap.size + 1, 1, none⟩ (.int .i64 (2))).setCell ⟨w.heap.size + 1, 2, none⟩ (.int .i64 (hd))).setCell ⟨w.heap.size + 1, 3, none⟩ (.slice ao ln cap)).setCell ⟨w.heap.size + 1, 4, none⟩ (.int .u32 (item))).setCell ⟨w.heap.size + 1, 5, none⟩ (.int .u64 (x))).setCell ⟨w.heap.size + 1, 6, none⟩ (.int .u32 (loI x))).setCell ⟨w.heap.size + 1, 7, none⟩ (.int .i64 (tr)))).drew = w9 at *
  clear b0 b1 b2 b3 b4 b5 b6 b7  r0 r1 r2 r3 r4 r5 r6 r7 fr0 fr1 fr2 fr3 fr4 fr5 fr6 fr7 d0 d1 d2 d3 d4 d5 d6 d7  s0 s1 s2 s3 s4 s5 s6 s7 fs0 fs1 fs2 fs3 fs4 fs5 fs6 fs7
  have k0 := hr9.cell 0
  have k1 := hr9.cell 1
  have k2 := hr9.cell 2
  have k3 := hr9.cell 3
  have k4 := hr9.cell 4
  have k5 := hr9.cell 5
  have k6 := hr9.cell 6
  have k7 := hr9.cell 7
  simp only [List.getElem?_cons_zero, List.getElem?_cons_succ] at k0 k1 k2 k3 k4 k5 k6 k7
  go_wp2_with fail
  exact bodyPost_ret (v := .tuple #[.slice mo ml mc, .agg ([.int .i64 (1), .int .i64 (2), .int .i64 (hd), .slice ao ln cap, .int .u32 (item), .int .u64 (x), .int .u32 (loI x), .int .i64 (tr)] : List Value).toArray]) (by simp [results, Tryz.results80, go_sem, k0, k1, k2, k3, k4, k5, k6, k7]) rfl ⟨_, _, rfl, HM.out _ hk9, ⟨⟨hi0, hi1⟩, hUx, ⟨by show 0 ≤ loI x; omega, by show loI x < 4294967296; omega⟩, 1, tr, rfl, HR.out _ hk9, fun _ => rfl, fun e => e.elim⟩, hk9, fun g e => .inl rfl⟩

set_option maxRecDepth 8000 in
set_option maxHeartbeats 1600000 in
theorem st9_popHead1 {Ls mem : List Int} {s : SM} {l v vl : Value} (w : World) (h : R9 w v Ls vl s) (hm : MemV w l mem) (hall : ∀ x ∈ mem, U x) (_hlen : mem.length ≤ 20000) (hp : s.pc = .popHead) (hz : ¬ loI (mget mem s.head) = 0) :
    Calls Tryz.prog 80 #[l, v] w fun e w' => ∃ l' v', e = .returned (.tuple #[l', v']) ∧ MemV w' l' (smStep (lkL Ls) mem s).1 ∧ R9 w' v' Ls vl (smStep (lkL Ls) mem s).2 ∧ Kept w w' ∧ (∀ g, l'.ownBlock = some g → l' = l ∨ w.heap.size ≤ g) := by
  obtain ⟨pc, hd, item, h, link⟩ := s
  simp only at hp hz
  subst hp
  obtain ⟨⟨hi0, hi1⟩, hU, ⟨hl0, hl1⟩, kind, tries, rfl, hrow, hpu, hpo⟩ := h
  simp only at hi0 hi1 hU hl0 hl1 hpu hpo ⊢
  obtain rfl := hpo trivial
  obtain ⟨ao, cap, hvl⟩ := hrow.form
  obtain ⟨ln, hln⟩ : ∃ ln, ln = (Ls.map (Value.int .i64)).length := ⟨_, rfl⟩
  rw [← hln] at hvl
  subst hvl
  clear hln hpu hpo
  obtain ⟨mo, mc, hmv⟩ := hm.form
  obtain ⟨ml, hml⟩ : ∃ ml, ml = (mem.map (Value.int .u64)).length := ⟨_, rfl⟩
  rw [← hml] at hmv
  subst hmv
  clear hml
  have HR : Hid (∀ W, Kept w W → Row W (.slice ao ln cap) (Ls.map (Value.int .i64))) := fun W k => hrow.kept k
  have HM : Hid (∀ W, Kept w W → MemV W (.slice mo ml mc) mem) := fun W k => hm.kept k
  clear hrow hm
  have HA : Hid (∀ x ∈ mem, U x) := hall
  clear hall
  simp only [smStep, pcN]
  obtain ⟨x, hx⟩ : ∃ x, mget mem hd = x := ⟨_, rfl⟩
  have HX : Hid (mget mem hd = x) := hx
  have hUx : U x := hx ▸ mget_all HA.out hd
  have hlx := loI_bound x
  rw [hx] at hz ⊢
  clear hx
  have hzb : (loI x == 0) = false := by simpa using hz
  simp only [if_neg hz]
  clear hz
  obtain ⟨tr, htr⟩ : ∃ tr : Int, IntKind.i64.wrap (tries + 1) = tr := ⟨_, rfl⟩
  have hb0 := Blk.new w 55 [.int .i64 (2), .int .i64 (1), .int .i64 (hd), .slice ao ln cap, .int .u32 (item), .int .u64 (h), .int .u32 (link), .int .i64 (tr)]
  have hk0 : Kept w (w.alloc (.cells ([.int .i64 (2), .int .i64 (1), .int .i64 (hd), .slice ao ln cap, .int .u32 (item), .int .u64 (h), .int .u32 (link), .int .i64 (tr)] : List Value).toArray 55)) := (Below.refl _ _).alloc (Nat.le_refl _) _
  have z0 : (w.alloc (.cells ([.int .i64 (2), .int .i64 (1), .int .i64 (hd), .slice ao ln cap, .int .u32 (item), .int .u64 (h), .int .u32 (link), .int .i64 (tr)] : List Value).toArray 55)).heap.size = w.heap.size + 1 := by simp
  go_enter Tryz.func80, Tryz.ntmps80
  go_wp2_with fail
  generalize w.alloc (.cells ([.int .i64 (2), .int .i64 (1), .int .i64 (hd), .slice ao ln cap, .int .u32 (item), .int .u64 (h), .int .u32 (link), .int .i64 (tr)] : List Value).toArray 55) = w1 at *
  have hr0 := Blk.new w1 55 [.int .i64 0, .int .i64 0, .int .i64 0, .slice none 0 0, .int .u32 0, .int .u64 0, .int .u32 0, .int .i64 0]
  rw [z0] at hr0
  have hk1 : Kept w1 (w1.alloc (.cells ([.int .i64 0, .int .i64 0, .int .i64 0, .slice none 0 0, .int .u32 0, .int .u64 0, .int .u32 0, .int .i64 0] : List Value).toArray 55)) := (Below.refl _ _).alloc (Nat.le_refl _) _
  have z1 : (w1.alloc (.cells ([.int .i64 0, .int .i64 0, .int .i64 0, .slice none 0 0, .int .u32 0, .int .u64 0, .int .u32 0, .int .i64 0] : List Value).toArray 55)).heap.size = w.heap.size + 2 := by simp [z0]
  generalize w1.alloc (.cells ([.int .i64 0, .int .i64 0, .int .i64 0, .slice none 0 0, .int .u32 0, .int .u64 0, .int .u32 0, .int .i64 0] : List Value).toArray 55) = w2 at *
  have hb := hk1.blk hb0
  have hr := hr0
  have hk : Kept w w2 := hk0.trans' hk1
  clear hb0 hr0 hk0 hk1 z0
  refine (loadL_ref hd w2 (HM.out w2 hk)).mono ?_; rintro e wx ⟨rfl, rfl⟩
  rw [HX.out]
  have b0 := hb.cell 0
  have b1 := hb.cell 1
  have b2 := hb.cell 2
  have b3 := hb.cell 3
  have b4 := hb.cell 4
  have b5 := hb.cell 5
  have b6 := hb.cell 6
  have b7 := hb.cell 7
  have fb5 := hb.free 5
  simp only [List.getElem?_cons_zero, List.getElem?_cons_succ] at b0 b1 b2 b3 b4 b5 b6 b7
  go_wp2_with fail
  clear b0 b1 b2 b3 b4 b5 b6 b7 fb5
  have hb3 : Blk (w2.setCell ⟨w.heap.size, 5, none⟩ (.int .u64 (x))) (w.heap.size) 55 [.int .i64 (2), .int .i64 (1), .int .i64 (hd), .slice ao ln cap, .int .u32 (item), .int .u64 (x), .int .u32 (link), .int .i64 (tr)] := (hb.set' 5 (.int .u64 (x)) rfl)
  have hcx := ((Chg.refl (fun q => q = w.heap.size) w2).setCell ⟨w.heap.size, 5, none⟩ (.int .u64 (x)) (fun _ => rfl))
  replace hr := hcx.blk hr (by simp)
  replace hk := hk.trans (hcx.toBelow (B := w.heap.size) (by have := hk.size; omega) (fun q hq e => by omega))
  generalize (w2.setCell ⟨w.heap.size, 5, none⟩ (.int .u64 (x))) = w3 at *
  clear hcx hb
  have hb := hb3
  clear hb3
  refine (low_ref x w3 hUx).mono ?_; rintro e wx ⟨rfl, rfl⟩
  have b0 := hb.cell 0
  have b1 := hb.cell 1
  have b2 := hb.cell 2
  have b3 := hb.cell 3
  have b4 := hb.cell 4
  have b5 := hb.cell 5
  have b6 := hb.cell 6
  have b7 := hb.cell 7
  have fb1 := hb.free 1
  have fb4 := hb.free 4
  simp only [List.getElem?_cons_zero, List.getElem?_cons_succ] at b0 b1 b2 b3 b4 b5 b6 b7
  go_wp2_with fail
  clear b0 b1 b2 b3 b4 b5 b6 b7 fb1 fb4
  have hb4 : Blk ((w3.setCell ⟨w.heap.size, 1, none⟩ (.int .i64 (2))).setCell ⟨w.heap.size, 4, none⟩ (.int .u32 (loI x))) (w.heap.size) 55 [.int .i64 (2), .int .i64 (2), .int .i64 (hd), .slice ao ln cap, .int .u32 (loI x), .int .u64 (x), .int .u32 (link), .int .i64 (tr)] := ((hb.set' 1 (.int .i64 (2)) rfl).set' 4 (.int .u32 (loI x)) rfl)
  have hcx := (((Chg.refl (fun q => q = w.heap.size) w3).setCell ⟨w.heap.size, 1, none⟩ (.int .i64 (2)) (fun _ => rfl)).setCell ⟨w.heap.size, 4, none⟩ (.int .u32 (loI x)) (fun _ => rfl))
  replace hr := hcx.blk hr (by simp)
  replace hk := hk.trans (hcx.toBelow (B := w.heap.size) (by have := hk.size; omega) (fun q hq e => by omega))
  generalize ((w3.setCell ⟨w.heap.size, 1, none⟩ (.int .i64 (2))).setCell ⟨w.heap.size, 4, none⟩ (.int .u32 (loI x))) = w4 at *
  clear hcx hb
  have hb := hb4
  clear hb4
  have b0 := hb.cell 0
  have b1 := hb.cell 1
  have b2 := hb.cell 2
  have b3 := hb.cell 3
  have b4 := hb.cell 4
  have b5 := hb.cell 5
  have b6 := hb.cell 6
  have b7 := hb.cell 7
  simp only [List.getElem?_cons_zero, List.getElem?_cons_succ] at b0 b1 b2 b3 b4 b5 b6 b7
  have r0 := hr.cell 0
  have r1 := hr.cell 1
  have r2 := hr.cell 2
  have r3 := hr.cell 3
  have r4 := hr.cell 4
  have r5 := hr.cell 5
  have r6 := hr.cell 6
  have r7 := hr.cell 7
  have fr0 := hr.free 0
  have fr1 := hr.free 1
  have fr2 := hr.free 2
  have fr3 := hr.free 3
  have fr4 := hr.free 4
  have fr5 := hr.free 5
  have fr6 := hr.free 6
  have fr7 := hr.free 7
  simp only [List.getElem?_cons_zero, List.getElem?_cons_succ] at r0 r1 r2 r3 r4 r5 r6 r7
  have hbD := hb.drew
  have hrD := hr.drew
  have d0 := hbD.cell 0
  have d1 := hbD.cell 1
  have d2 := hbD.cell 2
  have d3 := hbD.cell 3
  have d4 := hbD.cell 4
  have d5 := hbD.cell 5
  have d6 := hbD.cell 6
  have d7 := hbD.cell 7
  simp only [List.getElem?_cons_zero, List.getElem?_cons_succ] at d0 d1 d2 d3 d4 d5 d6 d7
  have s0 := hrD.cell 0
  have s1 := hrD.cell 1
  have s2 := hrD.cell 2
  have s3 := hrD.cell 3
  have s4 := hrD.cell 4
  have s5 := hrD.cell 5
  have s6 := hrD.cell 6
  have s7 := hrD.cell 7
  have fs0 := hrD.free 0
  have fs1 := hrD.free 1
  have fs2 := hrD.free 2
  have fs3 := hrD.free 3
  have fs4 := hrD.free 4
  have fs5 := hrD.free 5
  have fs6 := hrD.free 6
  have fs7 := hrD.free 7
  simp only [List.getElem?_cons_zero, List.getElem?_cons_succ] at s0 s1 s2 s3 s4 s5 s6 s7
  go_wp2_with fail
  go_region
  have hr9 : Blk (((((((((w4.setCell ⟨w.heap.size + 1, 0, none⟩ (.int .i64 (2))).setCell ⟨w.heap.size + 1, 1, none⟩ (.int .i64 (2))).setCell ⟨w.heap.size + 1, 2, none⟩ (.int .i64 (hd))).setCell ⟨w.heap.size + 1, 3, none⟩ (.slice ao ln cap)).setCell ⟨w.heap.size + 1, 4, none⟩ (.int .u32 (loI x))).setCell ⟨w.heap.size + 1, 5, none⟩ (.int .u64 (x))).setCell ⟨w.heap.size + 1, 6, none⟩ (.int .u32 (link))).setCell ⟨w.heap.size + 1, 7, none⟩ (.int .i64 (tr)))).drew (w.heap.size + 1) 55 [.int .i64 (2), .int .i64 (2), .int .i64 (hd), .slice ao ln cap, .int .u32 (loI x), .int .u64 (x), .int .u32 (link), .int .i64 (tr)] := (((((((((hr.set' 0 (.int .i64 (2)) rfl).set' 1 (.int .i64 (2)) rfl).set' 2 (.int .i64 (hd)) rfl).set' 3 (.slice ao ln cap) rfl).set' 4 (.int .u32 (loI x)) rfl).set' 5 (.int .u64 (x)) rfl).set' 6 (.int .u32 (link)) rfl).set' 7 (.int .i64 (tr)) rfl)).drew
  have hk9 : Kept w (((((((((w4.setCell ⟨w.heap.size + 1, 0, none⟩ (.int .i64 (2))).setCell ⟨w.heap.size + 1, 1, none⟩ (.int .i64 (2))).setCell ⟨w.heap.size + 1, 2, none⟩ (.int .i64 (hd))).setCell ⟨w.heap.size + 1, 3, none⟩ (.slice ao ln cap)).setCell ⟨w.heap.size + 1, 4, none⟩ (.int .u32 (loI x))).setCell ⟨w.heap.size + 1, 5, none⟩ (.int .u64 (x))).setCell ⟨w.heap.size + 1, 6, none⟩ (.int .u32 (link))).setCell ⟨w.heap.size + 1, 7, none⟩ (.int .i64 (tr)))).drew := Below.drew (Below.setCell (Below.setCell (Below.setCell (Below.setCell (Below.setCell (Below.setCell (Below.setCell (Below.setCell hk (p := ⟨w.heap.size + 1, 0, none⟩) (by simp) _) (p := ⟨w.heap.size + 1, 1, none⟩) (by simp) _) (p := ⟨w.heap.size + 1, 2, none⟩) (by simp) _) (p := ⟨w.heap.size + 1, 3, none⟩) (by simp) _) (p := ⟨w.heap.size + 1, 4, none⟩) (by simp) _) (p := ⟨w.heap.size + 1, 5, none⟩) (by simp) _) (p := ⟨w.heap.size + 1, 6, none⟩) (by simp) _) (p := ⟨w.heap.size + 1, 7, none⟩) (by simp) _)
  generalize (((((((((w4.setCell ⟨w.heap.size + 1, 0, none⟩ (.int .i64 (2))).setCell ⟨w.heap.size + 1, 1, none⟩ (.int .i64 (2))).setCell ⟨w.heap.size + 1, 2, none⟩ (.int .i64 (hd))).setCell ⟨w.heap.size + 1, 3, none⟩ (.slice ao ln cap)).setCell ⟨w.heap.size + 1, 4, none⟩ (.int .u32 (loI x))).setCell ⟨w.heap.size + 1, 5, none⟩ (.int .u64 (x))).setCell ⟨w.heap.size + 1, 6, none⟩ (.int .u32 (link))).setCell ⟨w.heap.size + 1, 7, none⟩ (.int .i64 (tr)))).drew = w9 at *
  clear b0 b1 b2 b3 b4 b5 b6 b7  r0 r1 r2 r3 r4 r5 r6 r7 fr0 fr1 fr2 fr3 fr4 fr5 fr6 fr7 d0 d1 d2 d3 d4 d5 d6 d7  s0 s1 s2 s3 s4 s5 s6 s7 fs0 fs1 fs2 fs3 fs4 fs5 fs6 fs7
  have k0 := hr9.cell 0
  have k1 := hr9.cell 1
  have k2 := hr9.cell 2
  have k3 := hr9.cell 3
  have k4 := hr9.cell 4
  have k5 := hr9.cell 5
  have k6 := hr9.cell 6
  have k7 := hr9.cell 7
  simp only [List.getElem?_cons_zero, List.getElem?_cons_succ] at k0 k1 k2 k3 k4 k5 k6 k7
  go_wp2_with fail
  exact bodyPost_ret (v := .tuple #[.slice mo ml mc, .agg ([.int .i64 (2), .int .i64 (2), .int .i64 (hd), .slice ao ln cap, .int .u32 (loI x), .int .u64 (x), .int .u32 (link), .int .i64 (tr)] : List Value).toArray]) (by simp [results, Tryz.results80, go_sem, k0, k1, k2, k3, k4, k5, k6, k7]) rfl ⟨_, _, rfl, HM.out _ hk9, ⟨⟨by show 0 ≤ loI x; omega, by show loI x < 4294967296; omega⟩, hUx, ⟨hl0, hl1⟩, 2, tr, rfl, HR.out _ hk9, fun e => e.elim, fun _ => rfl⟩, hk9, fun g e => .inl rfl⟩

set_option maxRecDepth 8000 in
set_option maxHeartbeats 1600000 in
theorem st9_popHead0 {Ls mem : List Int} {s : SM} {l v vl : Value} (w : World) (h : R9 w v Ls vl s) (hm : MemV w l mem) (hall : ∀ x ∈ mem, U x) (_hlen : mem.length ≤ 20000) (hp : s.pc = .popHead) (hz :  loI (mget mem s.head) = 0) :
    Calls Tryz.prog 80 #[l, v] w fun e w' => ∃ l' v', e = .returned (.tuple #[l', v']) ∧ MemV w' l' (smStep (lkL Ls) mem s).1 ∧ R9 w' v' Ls vl (smStep (lkL Ls) mem s).2 ∧ Kept w w' ∧ (∀ g, l'.ownBlock = some g → l' = l ∨ w.heap.size ≤ g) := by
  obtain ⟨pc, hd, item, h, link⟩ := s
  simp only at hp hz
  subst hp
  obtain ⟨⟨hi0, hi1⟩, hU, ⟨hl0, hl1⟩, kind, tries, rfl, hrow, hpu, hpo⟩ := h
  simp only at hi0 hi1 hU hl0 hl1 hpu hpo ⊢
  obtain rfl := hpo trivial
  obtain ⟨ao, cap, hvl⟩ := hrow.form
  obtain ⟨ln, hln⟩ : ∃ ln, ln = (Ls.map (Value.int .i64)).length := ⟨_, rfl⟩
  rw [← hln] at hvl
  subst hvl
  clear hln hpu hpo
  obtain ⟨mo, mc, hmv⟩ := hm.form
  obtain ⟨ml, hml⟩ : ∃ ml, ml = (mem.map (Value.int .u64)).length := ⟨_, rfl⟩
  rw [← hml] at hmv
  subst hmv
  clear hml
  have HR : Hid (∀ W, Kept w W → Row W (.slice ao ln cap) (Ls.map (Value.int .i64))) := fun W k => hrow.kept k
  have HM : Hid (∀ W, Kept w W → MemV W (.slice mo ml mc) mem) := fun W k => hm.kept k
  clear hrow hm
  have HA : Hid (∀ x ∈ mem, U x) := hall
  clear hall
  simp only [smStep, pcN]
  obtain ⟨x, hx⟩ : ∃ x, mget mem hd = x := ⟨_, rfl⟩
  have HX : Hid (mget mem hd = x) := hx
  have hUx : U x := hx ▸ mget_all HA.out hd
  have hlx := loI_bound x
  rw [hx] at hz ⊢
  clear hx
  have hzb : (loI x == 0) = true := by simpa using hz
  have HZ : Hid (loI x = 0) := hz
  simp only [HZ.out, ↓reduceIte]
  clear hz
  obtain ⟨tr, htr⟩ : ∃ tr : Int, IntKind.i64.wrap (tries + 1) = tr := ⟨_, rfl⟩
  have hb0 := Blk.new w 55 [.int .i64 (2), .int .i64 (1), .int .i64 (hd), .slice ao ln cap, .int .u32 (item), .int .u64 (h), .int .u32 (link), .int .i64 (tr)]
  have hk0 : Kept w (w.alloc (.cells ([.int .i64 (2), .int .i64 (1), .int .i64 (hd), .slice ao ln cap, .int .u32 (item), .int .u64 (h), .int .u32 (link), .int .i64 (tr)] : List Value).toArray 55)) := (Below.refl _ _).alloc (Nat.le_refl _) _
  have z0 : (w.alloc (.cells ([.int .i64 (2), .int .i64 (1), .int .i64 (hd), .slice ao ln cap, .int .u32 (item), .int .u64 (h), .int .u32 (link), .int .i64 (tr)] : List Value).toArray 55)).heap.size = w.heap.size + 1 := by simp
  go_enter Tryz.func80, Tryz.ntmps80
  go_wp2_with fail
  generalize w.alloc (.cells ([.int .i64 (2), .int .i64 (1), .int .i64 (hd), .slice ao ln cap, .int .u32 (item), .int .u64 (h), .int .u32 (link), .int .i64 (tr)] : List Value).toArray 55) = w1 at *
  have hr0 := Blk.new w1 55 [.int .i64 0, .int .i64 0, .int .i64 0, .slice none 0 0, .int .u32 0, .int .u64 0, .int .u32 0, .int .i64 0]
  rw [z0] at hr0
  have hk1 : Kept w1 (w1.alloc (.cells ([.int .i64 0, .int .i64 0, .int .i64 0, .slice none 0 0, .int .u32 0, .int .u64 0, .int .u32 0, .int .i64 0] : List Value).toArray 55)) := (Below.refl _ _).alloc (Nat.le_refl _) _
  have z1 : (w1.alloc (.cells ([.int .i64 0, .int .i64 0, .int .i64 0, .slice none 0 0, .int .u32 0, .int .u64 0, .int .u32 0, .int .i64 0] : List Value).toArray 55)).heap.size = w.heap.size + 2 := by simp [z0]
  generalize w1.alloc (.cells ([.int .i64 0, .int .i64 0, .int .i64 0, .slice none 0 0, .int .u32 0, .int .u64 0, .int .u32 0, .int .i64 0] : List Value).toArray 55) = w2 at *
  have hb := hk1.blk hb0
  have hr := hr0
  have hk : Kept w w2 := hk0.trans' hk1
  clear hb0 hr0 hk0 hk1 z0
  refine (loadL_ref hd w2 (HM.out w2 hk)).mono ?_; rintro e wx ⟨rfl, rfl⟩
  rw [HX.out]
  have b0 := hb.cell 0
  have b1 := hb.cell 1
  have b2 := hb.cell 2
  have b3 := hb.cell 3
  have b4 := hb.cell 4
  have b5 := hb.cell 5
  have b6 := hb.cell 6
  have b7 := hb.cell 7
  have fb5 := hb.free 5
  simp only [List.getElem?_cons_zero, List.getElem?_cons_succ] at b0 b1 b2 b3 b4 b5 b6 b7
  go_wp2_with fail
  clear b0 b1 b2 b3 b4 b5 b6 b7 fb5
  have hb3 : Blk (w2.setCell ⟨w.heap.size, 5, none⟩ (.int .u64 (x))) (w.heap.size) 55 [.int .i64 (2), .int .i64 (1), .int .i64 (hd), .slice ao ln cap, .int .u32 (item), .int .u64 (x), .int .u32 (link), .int .i64 (tr)] := (hb.set' 5 (.int .u64 (x)) rfl)
  have hcx := ((Chg.refl (fun q => q = w.heap.size) w2).setCell ⟨w.heap.size, 5, none⟩ (.int .u64 (x)) (fun _ => rfl))
  replace hr := hcx.blk hr (by simp)
  replace hk := hk.trans (hcx.toBelow (B := w.heap.size) (by have := hk.size; omega) (fun q hq e => by omega))
  generalize (w2.setCell ⟨w.heap.size, 5, none⟩ (.int .u64 (x))) = w3 at *
  clear hcx hb
  have hb := hb3
  clear hb3
  refine (low_ref x w3 hUx).mono ?_; rintro e wx ⟨rfl, rfl⟩
  have b0 := hb.cell 0
  have b1 := hb.cell 1
  have b2 := hb.cell 2
  have b3 := hb.cell 3
  have b4 := hb.cell 4
  have b5 := hb.cell 5
  have b6 := hb.cell 6
  have b7 := hb.cell 7
  have fb1 := hb.free 1
  have fb4 := hb.free 4
  simp only [List.getElem?_cons_zero, List.getElem?_cons_succ] at b0 b1 b2 b3 b4 b5 b6 b7
  go_wp2_with fail
  clear b0 b1 b2 b3 b4 b5 b6 b7 fb1 fb4
  have hb4 : Blk (((w3.setCell ⟨w.heap.size, 1, none⟩ (.int .i64 (2))).setCell ⟨w.heap.size, 4, none⟩ (.int .u32 (loI x))).setCell ⟨w.heap.size, 1, none⟩ (.int .i64 (0))) (w.heap.size) 55 [.int .i64 (2), .int .i64 (0), .int .i64 (hd), .slice ao ln cap, .int .u32 (loI x), .int .u64 (x), .int .u32 (link), .int .i64 (tr)] := (((hb.set' 1 (.int .i64 (2)) rfl).set' 4 (.int .u32 (loI x)) rfl).set' 1 (.int .i64 (0)) rfl)
  have hcx := ((((Chg.refl (fun q => q = w.heap.size) w3).setCell ⟨w.heap.size, 1, none⟩ (.int .i64 (2)) (fun _ => rfl)).setCell ⟨w.heap.size, 4, none⟩ (.int .u32 (loI x)) (fun _ => rfl)).setCell ⟨w.heap.size, 1, none⟩ (.int .i64 (0)) (fun _ => rfl))
  replace hr := hcx.blk hr (by simp)
  replace hk := hk.trans (hcx.toBelow (B := w.heap.size) (by have := hk.size; omega) (fun q hq e => by omega))
  generalize (((w3.setCell ⟨w.heap.size, 1, none⟩ (.int .i64 (2))).setCell ⟨w.heap.size, 4, none⟩ (.int .u32 (loI x))).setCell ⟨w.heap.size, 1, none⟩ (.int .i64 (0))) = w4 at *
  clear hcx hb
  have hb := hb4
  clear hb4
  have b0 := hb.cell 0
  have b1 := hb.cell 1
  have b2 := hb.cell 2
  have b3 := hb.cell 3
  have b4 := hb.cell 4
  have b5 := hb.cell 5
  have b6 := hb.cell 6
  have b7 := hb.cell 7
  simp only [List.getElem?_cons_zero, List.getElem?_cons_succ] at b0 b1 b2 b3 b4 b5 b6 b7
  have r0 := hr.cell 0
  have r1 := hr.cell 1
  have r2 := hr.cell 2
  have r3 := hr.cell 3
  have r4 := hr.cell 4
  have r5 := hr.cell 5
  have r6 := hr.cell 6
  have r7 := hr.cell 7
  have fr0 := hr.free 0
  have fr1 := hr.free 1
  have fr2 := hr.free 2
  have fr3 := hr.free 3
  have fr4 := hr.free 4
  have fr5 := hr.free 5
  have fr6 := hr.free 6
  have fr7 := hr.free 7
  simp only [List.getElem?_cons_zero, List.getElem?_cons_succ] at r0 r1 r2 r3 r4 r5 r6 r7
  have hbD := hb.drew
  have hrD := hr.drew
  have d0 := hbD.cell 0
  have d1 := hbD.cell 1
  have d2 := hbD.cell 2
  have d3 := hbD.cell 3
  have d4 := hbD.cell 4
  have d5 := hbD.cell 5
  have d6 := hbD.cell 6
  have d7 := hbD.cell 7
  simp only [List.getElem?_cons_zero, List.getElem?_cons_succ] at d0 d1 d2 d3 d4 d5 d6 d7
  have s0 := hrD.cell 0
  have s1 := hrD.cell 1
  have s2 := hrD.cell 2
  have s3 := hrD.cell 3
  have s4 := hrD.cell 4
  have s5 := hrD.cell 5
  have s6 := hrD.cell 6
  have s7 := hrD.cell 7
  have fs0 := hrD.free 0
  have fs1 := hrD.free 1
  have fs2 := hrD.free 2
  have fs3 := hrD.free 3
  have fs4 := hrD.free 4
  have fs5 := hrD.free 5
  have fs6 := hrD.free 6
  have fs7 := hrD.free 7
  simp only [List.getElem?_cons_zero, List.getElem?_cons_succ] at s0 s1 s2 s3 s4 s5 s6 s7
  go_wp2_with fail
  go_region
  have hr9 : Blk (((((((((w4.setCell ⟨w.heap.size + 1, 0, none⟩ (.int .i64 (2))).setCell ⟨w.heap.size + 1, 1, none⟩ (.int .i64 (0))).setCell ⟨w.heap.size + 1, 2, none⟩ (.int .i64 (hd))).setCell ⟨w.heap.size + 1, 3, none⟩ (.slice ao ln cap)).setCell ⟨w.heap.size + 1, 4, none⟩ (.int .u32 (loI x))).setCell ⟨w.heap.size + 1, 5, none⟩ (.int .u64 (x))).setCell ⟨w.heap.size + 1, 6, none⟩ (.int .u32 (link))).setCell ⟨w.heap.size + 1, 7, none⟩ (.int .i64 (tr)))).drew (w.heap.size + 1) 55 [.int .i64 (2), .int .i64 (0), .int .i64 (hd), .slice ao ln cap, .int .u32 (loI x), .int .u64 (x), .int .u32 (link), .int .i64 (tr)] := (((((((((hr.set' 0 (.int .i64 (2)) rfl).set' 1 (.int .i64 (0)) rfl).set' 2 (.int .i64 (hd)) rfl).set' 3 (.slice ao ln cap) rfl).set' 4 (.int .u32 (loI x)) rfl).set' 5 (.int .u64 (x)) rfl).set' 6 (.int .u32 (link)) rfl).set' 7 (.int .i64 (tr)) rfl)).drew
  have hk9 : Kept w (((((((((w4.setCell ⟨w.heap.size + 1, 0, none⟩ (.int .i64 (2))).setCell ⟨w.heap.size + 1, 1, none⟩ (.int .i64 (0))).setCell ⟨w.heap.size + 1, 2, none⟩ (.int .i64 (hd))).setCell ⟨w.heap.size + 1, 3, none⟩ (.slice ao ln cap)).setCell ⟨w.heap.size + 1, 4, none⟩ (.int .u32 (loI x))).setCell ⟨w.heap.size + 1, 5, none⟩ (.int .u64 (x))).setCell ⟨w.heap.size + 1, 6, none⟩ (.int .u32 (link))).setCell ⟨w.heap.size + 1, 7, none⟩ (.int .i64 (tr)))).drew := Below.drew (Below.setCell (Below.setCell (Below.setCell (Below.setCell (Below.setCell (Below.setCell (Below.setCell (Below.setCell hk (p := ⟨w.heap.size + 1, 0, none⟩) (by simp) _) (p := ⟨w.heap.size + 1, 1, none⟩) (by simp) _) (p := ⟨w.heap.size + 1, 2, none⟩) (by simp) _) (p := ⟨w.heap.size + 1, 3, none⟩) (by simp) _) (p := ⟨w.heap.size + 1, 4, none⟩) (by simp) _) (p := ⟨w.heap.size + 1, 5, none⟩) (by simp) _) (p := ⟨w.heap.size + 1, 6, none⟩) (by simp) _) (p := ⟨w.heap.size + 1, 7, none⟩) (by simp) _)
  generalize (((((((((w4.setCell ⟨w.heap.size + 1, 0, none⟩ (.int .i64 (2))).setCell ⟨w.heap.size + 1, 1, none⟩ (.int .i64 (0))).setCell ⟨w.heap.size + 1, 2, none⟩ (.int .i64 (hd))).setCell ⟨w.heap.size + 1, 3, none⟩ (.slice ao ln cap)).setCell ⟨w.heap.size + 1, 4, none⟩ (.int .u32 (loI x))).setCell ⟨w.heap.size + 1, 5, none⟩ (.int .u64 (x))).setCell ⟨w.heap.size + 1, 6, none⟩ (.int .u32 (link))).setCell ⟨w.heap.size + 1, 7, none⟩ (.int .i64 (tr)))).drew = w9 at *
  clear b0 b1 b2 b3 b4 b5 b6 b7  r0 r1 r2 r3 r4 r5 r6 r7 fr0 fr1 fr2 fr3 fr4 fr5 fr6 fr7 d0 d1 d2 d3 d4 d5 d6 d7  s0 s1 s2 s3 s4 s5 s6 s7 fs0 fs1 fs2 fs3 fs4 fs5 fs6 fs7
  have k0 := hr9.cell 0
  have k1 := hr9.cell 1
  have k2 := hr9.cell 2
  have k3 := hr9.cell 3
  have k4 := hr9.cell 4
  have k5 := hr9.cell 5
  have k6 := hr9.cell 6
  have k7 := hr9.cell 7
  simp only [List.getElem?_cons_zero, List.getElem?_cons_succ] at k0 k1 k2 k3 k4 k5 k6 k7
  go_wp2_with fail
  exact bodyPost_ret (v := .tuple #[.slice mo ml mc, .agg ([.int .i64 (2), .int .i64 (0), .int .i64 (hd), .slice ao ln cap, .int .u32 (loI x), .int .u64 (x), .int .u32 (link), .int .i64 (tr)] : List Value).toArray]) (by simp [results, Tryz.results80, go_sem, k0, k1, k2, k3, k4, k5, k6, k7]) rfl ⟨_, _, rfl, HM.out _ hk9, ⟨by show 0 ≤ (0 : Int) ∧ (0 : Int) < 4294967296; omega, hUx, ⟨hl0, hl1⟩, 2, tr, by rw [HZ.out]; rfl, HR.out _ hk9, fun e => e.elim, fun _ => rfl⟩, hk9, fun g e => .inl rfl⟩

set_option maxRecDepth 8000 in
set_option maxHeartbeats 1600000 in
theorem st9_popLink {Ls mem : List Int} {s : SM} {l v vl : Value} (w : World) (h : R9 w v Ls vl s) (hm : MemV w l mem) (hall : ∀ x ∈ mem, U x) (_hlen : mem.length ≤ 20000) (hp : s.pc = .popLink) :
    Calls Tryz.prog 80 #[l, v] w fun e w' => ∃ l' v', e = .returned (.tuple #[l', v']) ∧ MemV w' l' (smStep (lkL Ls) mem s).1 ∧ R9 w' v' Ls vl (smStep (lkL Ls) mem s).2 ∧ Kept w w' ∧ (∀ g, l'.ownBlock = some g → l' = l ∨ w.heap.size ≤ g) := by
  obtain ⟨pc, hd, item, h, link⟩ := s
  simp only at hp
  subst hp
  obtain ⟨⟨hi0, hi1⟩, hU, ⟨hl0, hl1⟩, kind, tries, rfl, hrow, hpu, hpo⟩ := h
  simp only at hi0 hi1 hU hl0 hl1 hpu hpo ⊢
  obtain rfl := hpo trivial
  obtain ⟨ao, cap, hvl⟩ := hrow.form
  obtain ⟨ln, hln⟩ : ∃ ln, ln = (Ls.map (Value.int .i64)).length := ⟨_, rfl⟩
  rw [← hln] at hvl
  subst hvl
  clear hln hpu hpo
  obtain ⟨mo, mc, hmv⟩ := hm.form
  obtain ⟨ml, hml⟩ : ∃ ml, ml = (mem.map (Value.int .u64)).length := ⟨_, rfl⟩
  rw [← hml] at hmv
  subst hmv
  clear hml
  have HR : Hid (∀ W, Kept w W → Row W (.slice ao ln cap) (Ls.map (Value.int .i64))) := fun W k => hrow.kept k
  have HM : Hid (∀ W, Kept w W → MemV W (.slice mo ml mc) mem) := fun W k => hm.kept k
  clear hrow hm
  have HA : Hid (∀ x ∈ mem, U x) := hall
  clear hall
  simp only [smStep, pcN]
  obtain ⟨y, hy⟩ : ∃ y, mget mem (lkL Ls item) = y := ⟨_, rfl⟩
  have HY : Hid (mget mem (lkL Ls item) = y) := hy
  have hUy : U y := hy ▸ mget_all HA.out _
  have hly := loI_bound y
  rw [hy]
  clear hy
  have hb0 := Blk.new w 55 [.int .i64 (2), .int .i64 (3), .int .i64 (hd), .slice ao ln cap, .int .u32 (item), .int .u64 (h), .int .u32 (link), .int .i64 (tries)]
  have hk0 : Kept w (w.alloc (.cells ([.int .i64 (2), .int .i64 (3), .int .i64 (hd), .slice ao ln cap, .int .u32 (item), .int .u64 (h), .int .u32 (link), .int .i64 (tries)] : List Value).toArray 55)) := (Below.refl _ _).alloc (Nat.le_refl _) _
  have z0 : (w.alloc (.cells ([.int .i64 (2), .int .i64 (3), .int .i64 (hd), .slice ao ln cap, .int .u32 (item), .int .u64 (h), .int .u32 (link), .int .i64 (tries)] : List Value).toArray 55)).heap.size = w.heap.size + 1 := by simp
  go_enter Tryz.func80, Tryz.ntmps80
  go_wp2_with fail
  generalize w.alloc (.cells ([.int .i64 (2), .int .i64 (3), .int .i64 (hd), .slice ao ln cap, .int .u32 (item), .int .u64 (h), .int .u32 (link), .int .i64 (tries)] : List Value).toArray 55) = w1 at *
  have hr0 := Blk.new w1 55 [.int .i64 0, .int .i64 0, .int .i64 0, .slice none 0 0, .int .u32 0, .int .u64 0, .int .u32 0, .int .i64 0]
  rw [z0] at hr0
  have hk1 : Kept w1 (w1.alloc (.cells ([.int .i64 0, .int .i64 0, .int .i64 0, .slice none 0 0, .int .u32 0, .int .u64 0, .int .u32 0, .int .i64 0] : List Value).toArray 55)) := (Below.refl _ _).alloc (Nat.le_refl _) _
  have z1 : (w1.alloc (.cells ([.int .i64 0, .int .i64 0, .int .i64 0, .slice none 0 0, .int .u32 0, .int .u64 0, .int .u32 0, .int .i64 0] : List Value).toArray 55)).heap.size = w.heap.size + 2 := by simp [z0]
  generalize w1.alloc (.cells ([.int .i64 0, .int .i64 0, .int .i64 0, .slice none 0 0, .int .u32 0, .int .u64 0, .int .u32 0, .int .i64 0] : List Value).toArray 55) = w2 at *
  have hb := hk1.blk hb0
  have hr := hr0
  have hk : Kept w w2 := hk0.trans' hk1
  clear hb0 hr0 hk0 hk1 z0
  refine (kAt_ref hd item w2 (HR.out w2 hk) ⟨hi0, hi1⟩).mono ?_; rintro e w3 ⟨rfl, hkc⟩
  replace hb := hkc.blk hb
  replace hr := hkc.blk hr
  replace hk := hk.trans' hkc
  clear hkc
  have b0 := hb.cell 0
  have b1 := hb.cell 1
  have b2 := hb.cell 2
  have b3 := hb.cell 3
  have b4 := hb.cell 4
  have b5 := hb.cell 5
  have b6 := hb.cell 6
  have b7 := hb.cell 7
  simp only [List.getElem?_cons_zero, List.getElem?_cons_succ] at b0 b1 b2 b3 b4 b5 b6 b7
  go_wp2_with fail
  refine (loadL_ref (lkL Ls item) w3 (HM.out w3 hk)).mono ?_; rintro e wx ⟨rfl, rfl⟩
  rw [HY.out]
  go_wp2_with fail
  refine (low_ref y w3 hUy).mono ?_; rintro e wx ⟨rfl, rfl⟩
  have fb6 := hb.free 6
  go_wp2_with fail
  clear b0 b1 b2 b3 b4 b5 b6 b7 fb6
  have hb4 : Blk (w3.setCell ⟨w.heap.size, 6, none⟩ (.int .u32 (loI y))) (w.heap.size) 55 [.int .i64 (2), .int .i64 (3), .int .i64 (hd), .slice ao ln cap, .int .u32 (item), .int .u64 (h), .int .u32 (loI y), .int .i64 (tries)] := (hb.set' 6 (.int .u32 (loI y)) rfl)
  have hcx := ((Chg.refl (fun q => q = w.heap.size) w3).setCell ⟨w.heap.size, 6, none⟩ (.int .u32 (loI y)) (fun _ => rfl))
  replace hr := hcx.blk hr (by simp)
  replace hk := hk.trans (hcx.toBelow (B := w.heap.size) (by have := hk.size; omega) (fun q hq e => by omega))
  generalize (w3.setCell ⟨w.heap.size, 6, none⟩ (.int .u32 (loI y))) = w4 at *
  clear hcx hb
  have hb := hb4
  clear hb4
  have b0 := hb.cell 0
  have b1 := hb.cell 1
  have b2 := hb.cell 2
  have b3 := hb.cell 3
  have b4 := hb.cell 4
  have b5 := hb.cell 5
  have b6 := hb.cell 6
  have b7 := hb.cell 7
  simp only [List.getElem?_cons_zero, List.getElem?_cons_succ] at b0 b1 b2 b3 b4 b5 b6 b7
  have r0 := hr.cell 0
  have r1 := hr.cell 1
  have r2 := hr.cell 2
  have r3 := hr.cell 3
  have r4 := hr.cell 4
  have r5 := hr.cell 5
  have r6 := hr.cell 6
  have r7 := hr.cell 7
  have fr0 := hr.free 0
  have fr1 := hr.free 1
  have fr2 := hr.free 2
  have fr3 := hr.free 3
  have fr4 := hr.free 4
  have fr5 := hr.free 5
  have fr6 := hr.free 6
  have fr7 := hr.free 7
  simp only [List.getElem?_cons_zero, List.getElem?_cons_succ] at r0 r1 r2 r3 r4 r5 r6 r7
  have hbD := hb.drew
  have hrD := hr.drew
  have d0 := hbD.cell 0
  have d1 := hbD.cell 1
  have d2 := hbD.cell 2
  have d3 := hbD.cell 3
  have d4 := hbD.cell 4
  have d5 := hbD.cell 5
  have d6 := hbD.cell 6
  have d7 := hbD.cell 7
  simp only [List.getElem?_cons_zero, List.getElem?_cons_succ] at d0 d1 d2 d3 d4 d5 d6 d7
  have s0 := hrD.cell 0
  have s1 := hrD.cell 1
  have s2 := hrD.cell 2
  have s3 := hrD.cell 3
  have s4 := hrD.cell 4
  have s5 := hrD.cell 5
  have s6 := hrD.cell 6
  have s7 := hrD.cell 7
  have fs0 := hrD.free 0
  have fs1 := hrD.free 1
  have fs2 := hrD.free 2
  have fs3 := hrD.free 3
  have fs4 := hrD.free 4
  have fs5 := hrD.free 5
  have fs6 := hrD.free 6
  have fs7 := hrD.free 7
  simp only [List.getElem?_cons_zero, List.getElem?_cons_succ] at s0 s1 s2 s3 s4 s5 s6 s7
  go_wp2_with fail
  go_region
  have hr9 : Blk (((((((((w4.setCell ⟨w.heap.size + 1, 0, none⟩ (.int .i64 (2))).setCell ⟨w.heap.size + 1, 1, none⟩ (.int .i64 (3))).setCell ⟨w.heap.size + 1, 2, none⟩ (.int .i64 (hd))).setCell ⟨w.heap.size + 1, 3, none⟩ (.slice ao ln cap)).setCell ⟨w.heap.size + 1, 4, none⟩ (.int .u32 (item))).setCell ⟨w.heap.size + 1, 5, none⟩ (.int .u64 (h))).setCell ⟨w.heap.size + 1, 6, none⟩ (.int .u32 (loI y))).setCell ⟨w.heap.size + 1, 7, none⟩ (.int .i64 (tries)))).drew (w.heap.size + 1) 55 [.int .i64 (2), .int .i64 (3), .int .i64 (hd), .slice ao ln cap, .int .u32 (item), .int .u64 (h), .int .u32 (loI y), .int .i64 (tries)] := (((((((((hr.set' 0 (.int .i64 (2)) rfl).set' 1 (.int .i64 (3)) rfl).set' 2 (.int .i64 (hd)) rfl).set' 3 (.slice ao ln cap) rfl).set' 4 (.int .u32 (item)) rfl).set' 5 (.int .u64 (h)) rfl).set' 6 (.int .u32 (loI y)) rfl).set' 7 (.int .i64 (tries)) rfl)).drew
  have hk9 : Kept w (((((((((w4.setCell ⟨w.heap.size + 1, 0, none⟩ (.int .i64 (2))).setCell ⟨w.heap.size + 1, 1, none⟩ (.int .i64 (3))).setCell ⟨w.heap.size + 1, 2, none⟩ (.int .i64 (hd))).setCell ⟨w.heap.size + 1, 3, none⟩ (.slice ao ln cap)).setCell ⟨w.heap.size + 1, 4, none⟩ (.int .u32 (item))).setCell ⟨w.heap.size + 1, 5, none⟩ (.int .u64 (h))).setCell ⟨w.heap.size + 1, 6, none⟩ (.int .u32 (loI y))).setCell ⟨w.heap.size + 1, 7, none⟩ (.int .i64 (tries)))).drew := Below.drew (Below.setCell (Below.setCell (Below.setCell (Below.setCell (Below.setCell (Below.setCell (Below.setCell (Below.setCell hk (p := ⟨w.heap.size + 1, 0, none⟩) (by simp) _) (p := ⟨w.heap.size + 1, 1, none⟩) (by simp) _) (p := ⟨w.heap.size + 1, 2, none⟩) (by simp) _) (p := ⟨w.heap.size + 1, 3, none⟩) (by simp) _) (p := ⟨w.heap.size + 1, 4, none⟩) (by simp) _) (p := ⟨w.heap.size + 1, 5, none⟩) (by simp) _) (p := ⟨w.heap.size + 1, 6, none⟩) (by simp) _) (p := ⟨w.heap.size + 1, 7, none⟩) (by simp) _)
  generalize (((((((((w4.setCell ⟨w.heap.size + 1, 0, none⟩ (.int .i64 (2))).setCell ⟨w.heap.size + 1, 1, none⟩ (.int .i64 (3))).setCell ⟨w.heap.size + 1, 2, none⟩ (.int .i64 (hd))).setCell ⟨w.heap.size + 1, 3, none⟩ (.slice ao ln cap)).setCell ⟨w.heap.size + 1, 4, none⟩ (.int .u32 (item))).setCell ⟨w.heap.size + 1, 5, none⟩ (.int .u64 (h))).setCell ⟨w.heap.size + 1, 6, none⟩ (.int .u32 (loI y))).setCell ⟨w.heap.size + 1, 7, none⟩ (.int .i64 (tries)))).drew = w9 at *
  clear b0 b1 b2 b3 b4 b5 b6 b7  r0 r1 r2 r3 r4 r5 r6 r7 fr0 fr1 fr2 fr3 fr4 fr5 fr6 fr7 d0 d1 d2 d3 d4 d5 d6 d7  s0 s1 s2 s3 s4 s5 s6 s7 fs0 fs1 fs2 fs3 fs4 fs5 fs6 fs7
  have k0 := hr9.cell 0
  have k1 := hr9.cell 1
  have k2 := hr9.cell 2
  have k3 := hr9.cell 3
  have k4 := hr9.cell 4
  have k5 := hr9.cell 5
  have k6 := hr9.cell 6
  have k7 := hr9.cell 7
  simp only [List.getElem?_cons_zero, List.getElem?_cons_succ] at k0 k1 k2 k3 k4 k5 k6 k7
  go_wp2_with fail
  exact bodyPost_ret (v := .tuple #[.slice mo ml mc, .agg ([.int .i64 (2), .int .i64 (3), .int .i64 (hd), .slice ao ln cap, .int .u32 (item), .int .u64 (h), .int .u32 (loI y), .int .i64 (tries)] : List Value).toArray]) (by simp [results, Tryz.results80, go_sem, k0, k1, k2, k3, k4, k5, k6, k7]) rfl ⟨_, _, rfl, HM.out _ hk9, ⟨⟨hi0, hi1⟩, hU, ⟨by show 0 ≤ loI y; omega, by show loI y < 4294967296; omega⟩, 2, tries, rfl, HR.out _ hk9, fun e => e.elim, fun _ => rfl⟩, hk9, fun g e => .inl rfl⟩

set_option maxRecDepth 8000 in
set_option maxHeartbeats 1600000 in
theorem st9_pushLink {Ls mem : List Int} {s : SM} {l v vl : Value} (w : World) (h : R9 w v Ls vl s) (hm : MemV w l mem) (hall : ∀ x ∈ mem, U x) (hlen : mem.length ≤ 20000) (hp : s.pc = .pushLink) :
    Calls Tryz.prog 80 #[l, v] w fun e w' => ∃ l' v', e = .returned (.tuple #[l', v']) ∧ MemV w' l' (smStep (lkL Ls) mem s).1 ∧ R9 w' v' Ls vl (smStep (lkL Ls) mem s).2 ∧ Kept w w' ∧ (∀ g, l'.ownBlock = some g → l' = l ∨ w.heap.size ≤ g) := by
  obtain ⟨pc, hd, item, h, link⟩ := s
  simp only at hp
  subst hp
  obtain ⟨⟨hi0, hi1⟩, hU, ⟨hl0, hl1⟩, kind, tries, rfl, hrow, hpu, hpo⟩ := h
  simp only at hi0 hi1 hU hl0 hl1 hpu hpo ⊢
  obtain rfl := hpu trivial
  obtain ⟨ao, cap, hvl⟩ := hrow.form
  obtain ⟨ln, hln⟩ : ∃ ln, ln = (Ls.map (Value.int .i64)).length := ⟨_, rfl⟩
  rw [← hln] at hvl
  subst hvl
  clear hln hpu hpo
  obtain ⟨mo, mc, hmv⟩ := hm.form
  obtain ⟨ml, hml⟩ : ∃ ml, ml = (mem.map (Value.int .u64)).length := ⟨_, rfl⟩
  rw [← hml] at hmv
  subst hmv
  clear hml
  have HR : Hid (∀ W, Kept w W → Row W (.slice ao ln cap) (Ls.map (Value.int .i64))) := fun W k => hrow.kept k
  have HM : Hid (∀ W, Kept w W → MemV W (.slice mo ml mc) mem) := fun W k => hm.kept k
  clear hrow hm
  have HA : Hid (∀ x ∈ mem, U x) := hall
  clear hall
  simp only [smStep, pcN]
  have ylk : IntKind.u64.wrap link = link := u64_in (by omega) (by omega)
  have hb0 := Blk.new w 55 [.int .i64 (1), .int .i64 (3), .int .i64 (hd), .slice ao ln cap, .int .u32 (item), .int .u64 (h), .int .u32 (link), .int .i64 (tries)]
  have hk0 : Kept w (w.alloc (.cells ([.int .i64 (1), .int .i64 (3), .int .i64 (hd), .slice ao ln cap, .int .u32 (item), .int .u64 (h), .int .u32 (link), .int .i64 (tries)] : List Value).toArray 55)) := (Below.refl _ _).alloc (Nat.le_refl _) _
  have z0 : (w.alloc (.cells ([.int .i64 (1), .int .i64 (3), .int .i64 (hd), .slice ao ln cap, .int .u32 (item), .int .u64 (h), .int .u32 (link), .int .i64 (tries)] : List Value).toArray 55)).heap.size = w.heap.size + 1 := by simp
  go_enter Tryz.func80, Tryz.ntmps80
  go_wp2_with fail
  generalize w.alloc (.cells ([.int .i64 (1), .int .i64 (3), .int .i64 (hd), .slice ao ln cap, .int .u32 (item), .int .u64 (h), .int .u32 (link), .int .i64 (tries)] : List Value).toArray 55) = w1 at *
  have hr0 := Blk.new w1 55 [.int .i64 0, .int .i64 0, .int .i64 0, .slice none 0 0, .int .u32 0, .int .u64 0, .int .u32 0, .int .i64 0]
  rw [z0] at hr0
  have hk1 : Kept w1 (w1.alloc (.cells ([.int .i64 0, .int .i64 0, .int .i64 0, .slice none 0 0, .int .u32 0, .int .u64 0, .int .u32 0, .int .i64 0] : List Value).toArray 55)) := (Below.refl _ _).alloc (Nat.le_refl _) _
  have z1 : (w1.alloc (.cells ([.int .i64 0, .int .i64 0, .int .i64 0, .slice none 0 0, .int .u32 0, .int .u64 0, .int .u32 0, .int .i64 0] : List Value).toArray 55)).heap.size = w.heap.size + 2 := by simp [z0]
  generalize w1.alloc (.cells ([.int .i64 0, .int .i64 0, .int .i64 0, .slice none 0 0, .int .u32 0, .int .u64 0, .int .u32 0, .int .i64 0] : List Value).toArray 55) = w2 at *
  have hb := hk1.blk hb0
  have hr := hr0
  have hk : Kept w w2 := hk0.trans' hk1
  clear hb0 hr0 hk0 hk1 z0
  have hbD := hb.drew
  have hrD := hr.drew
  have hkD : Kept w w2.drew := hk.drew
  have b0 := hb.cell 0
  have b1 := hb.cell 1
  have b2 := hb.cell 2
  have b3 := hb.cell 3
  have b4 := hb.cell 4
  have b5 := hb.cell 5
  have b6 := hb.cell 6
  have b7 := hb.cell 7
  simp only [List.getElem?_cons_zero, List.getElem?_cons_succ] at b0 b1 b2 b3 b4 b5 b6 b7
  have d0 := hbD.cell 0
  have d1 := hbD.cell 1
  have d2 := hbD.cell 2
  have d3 := hbD.cell 3
  have d4 := hbD.cell 4
  have d5 := hbD.cell 5
  have d6 := hbD.cell 6
  have d7 := hbD.cell 7
  simp only [List.getElem?_cons_zero, List.getElem?_cons_succ] at d0 d1 d2 d3 d4 d5 d6 d7
  go_wp2_with fail
  refine wp_region_z 12 (fun w' => w'.cell? ⟨w.heap.size, 0, none⟩ = some (.int .i64 (1)) ∧ w'.cell? ⟨w.heap.size, 1, none⟩ = some (.int .i64 (3)) ∧ w'.cell? ⟨w.heap.size, 2, none⟩ = some (.int .i64 (hd)) ∧ w'.cell? ⟨w.heap.size, 3, none⟩ = some (.slice ao ln cap) ∧ w'.cell? ⟨w.heap.size, 4, none⟩ = some (.int .u32 (item)) ∧ w'.cell? ⟨w.heap.size, 5, none⟩ = some (.int .u64 (h)) ∧ w'.cell? ⟨w.heap.size, 6, none⟩ = some (.int .u32 (link)) ∧ w'.cell? ⟨w.heap.size, 7, none⟩ = some (.int .i64 (tries))) (by kernel_rfl) ?_
  refine wpAnyZ_take (i := 0) (v := ?v0z4) rfl (by kernel_rfl) (by kernel_rfl) (by kernel_rfl) (by kernel_rfl) (fun _ _ _ h => h) (Or.inl ⟨by rfl, ?hy0z4⟩) ⟨d0,d1,d2,d3,d4,d5,d6,d7⟩ ?_
  case hy0z4 => intro w hSw; (try dsimp only at hSw); first | (go_simp; done) | (go_simp; with_reducible rfl)
  try simp only [Act.put, List.setIfInBounds_toArray]
  refine wpAnyZ_take (i := 1) (v := ?v1z4) rfl (by kernel_rfl) (by kernel_rfl) (by kernel_rfl) (by kernel_rfl) (fun _ _ _ h => h) (Or.inl ⟨by rfl, ?hy1z4⟩) ⟨d0,d1,d2,d3,d4,d5,d6,d7⟩ ?_
  case hy1z4 => intro w hSw; (try dsimp only at hSw); first | (go_simp; done) | (go_simp; with_reducible rfl)
  try simp only [Act.put]
  refine wpAnyZ_take (i := 2) (v := ?v2z4) rfl (by kernel_rfl) (by kernel_rfl) (by kernel_rfl) (by kernel_rfl) (fun _ _ _ h => h) (Or.inl ⟨by rfl, ?hy2z4⟩) ⟨d0,d1,d2,d3,d4,d5,d6,d7⟩ ?_
  case hy2z4 => intro w hSw; (try dsimp only at hSw); first | (go_simp; done) | (go_simp; with_reducible rfl)
  try simp only [Act.put]
  refine wpAnyZ_take (i := 3) (v := ?v3z4) rfl (by kernel_rfl) (by kernel_rfl) (by kernel_rfl) (by kernel_rfl) (fun _ _ _ h => h) (Or.inl ⟨by rfl, ?hy3z4⟩) ⟨d0,d1,d2,d3,d4,d5,d6,d7⟩ ?_
  case hy3z4 => intro w hSw; (try dsimp only at hSw); first | (go_simp; done) | (go_simp; with_reducible rfl)
  try simp only [Act.put]
  refine wpAnyZ_take (i := 4) (v := ?v4z4) rfl (by kernel_rfl) (by kernel_rfl) (by kernel_rfl) (by kernel_rfl) (fun _ _ _ h => h) (Or.inl ⟨by rfl, ?hy4z4⟩) ⟨d0,d1,d2,d3,d4,d5,d6,d7⟩ ?_
  case hy4z4 => intro w hSw; (try dsimp only at hSw); first | (go_simp; done) | (go_simp; with_reducible rfl)
  try simp only [Act.put]
  refine wpAnyZ_take (i := 6) (v := ?v6z4) rfl (by kernel_rfl) (by kernel_rfl) (by kernel_rfl) (by kernel_rfl) (fun _ _ _ h => h) (Or.inl ⟨by rfl, ?hy6z4⟩) ⟨d0,d1,d2,d3,d4,d5,d6,d7⟩ ?_
  case hy6z4 => intro w hSw; (try dsimp only at hSw); first | (go_simp; done) | (go_simp; with_reducible rfl)
  try simp only [Act.put]
  refine wpAnyZ_take (i := 7) (v := ?v7z4) rfl (by kernel_rfl) (by kernel_rfl) (by kernel_rfl) (by kernel_rfl) (fun _ _ _ h => h) (Or.inl ⟨by rfl, ?hy7z4⟩) ⟨d0,d1,d2,d3,d4,d5,d6,d7⟩ ?_
  case hy7z4 => intro w hSw; (try dsimp only at hSw); first | (go_simp; done) | (go_simp; with_reducible rfl)
  try simp only [Act.put]
  refine wpAnyZ_take (i := 8) (v := ?v8z4) rfl (by kernel_rfl) (by kernel_rfl) (by kernel_rfl) (by kernel_rfl) (fun _ _ _ h => h) (Or.inl ⟨by rfl, ?hy8z4⟩) ⟨d0,d1,d2,d3,d4,d5,d6,d7⟩ ?_
  case hy8z4 => intro w hSw; (try dsimp only at hSw); first | (go_simp; done) | (go_simp; with_reducible rfl)
  try simp only [Act.put]
  refine wpAnyZ_take (i := 10) (v := ?v10z4) rfl (by kernel_rfl) (by kernel_rfl) (by kernel_rfl) (by kernel_rfl) (fun _ _ _ h => h) (Or.inl ⟨by rfl, ?hy10z4⟩) ⟨d0,d1,d2,d3,d4,d5,d6,d7⟩ ?_
  case hy10z4 => intro w hSw; (try dsimp only at hSw); first | (go_simp; done) | (go_simp; with_reducible rfl)
  try simp only [Act.put]
  refine wpAnyZ_one (i := 5) (by kernel_rfl) rfl (fun K hK => ?_)
  go_simp
  go_at_call 99
  refine (kAt_ref hd item _ (HR.out _ hkD) ⟨hi0, hi1⟩).mono ?_; rintro e w5 ⟨rfl, hkc⟩
  have hb5 := hkc.blk hbD
  have hr5 := hkc.blk hrD
  have hk5 := Kept.trans' hkD hkc
  have e0 := hb5.cell 0
  have e1 := hb5.cell 1
  have e2 := hb5.cell 2
  have e3 := hb5.cell 3
  have e4 := hb5.cell 4
  have e5 := hb5.cell 5
  have e6 := hb5.cell 6
  have e7 := hb5.cell 7
  simp only [List.getElem?_cons_zero, List.getElem?_cons_succ] at e0 e1 e2 e3 e4 e5 e6 e7
  refine hK.out _ _ (fun _ => ⟨e0,e1,e2,e3,e4,e5,e6,e7⟩) ?_
  clear hK K
  try simp only [Act.put, List.setIfInBounds_toArray, List.set_cons_zero, List.set_cons_succ]
  refine wpAnyZ_one (i := 9) (by kernel_rfl) rfl (fun K hK => ?_)
  go_simp
  go_at_call 22
  refine (putL_ref (lkL Ls item) link _ (HM.out _ hk5) hlen).mono ?_; rintro e w6 ⟨l', rfl, hl', hkc6, hown6⟩
  have hb6 := hkc6.blk hb5
  have hr6 := hkc6.blk hr5
  have hk6 := Kept.trans' hk5 hkc6
  have g0 := hb6.cell 0
  have g1 := hb6.cell 1
  have g2 := hb6.cell 2
  have g3 := hb6.cell 3
  have g4 := hb6.cell 4
  have g5 := hb6.cell 5
  have g6 := hb6.cell 6
  have g7 := hb6.cell 7
  simp only [List.getElem?_cons_zero, List.getElem?_cons_succ] at g0 g1 g2 g3 g4 g5 g6 g7
  have q0 := hr6.cell 0
  have q1 := hr6.cell 1
  have q2 := hr6.cell 2
  have q3 := hr6.cell 3
  have q4 := hr6.cell 4
  have q5 := hr6.cell 5
  have q6 := hr6.cell 6
  have q7 := hr6.cell 7
  have fq0 := hr6.free 0
  have fq1 := hr6.free 1
  have fq2 := hr6.free 2
  have fq3 := hr6.free 3
  have fq4 := hr6.free 4
  have fq5 := hr6.free 5
  have fq6 := hr6.free 6
  have fq7 := hr6.free 7
  simp only [List.getElem?_cons_zero, List.getElem?_cons_succ] at q0 q1 q2 q3 q4 q5 q6 q7
  refine hK.out _ _ (fun _ => ⟨g0,g1,g2,g3,g4,g5,g6,g7⟩) ?_
  clear hK K
  try simp only [Act.put, List.setIfInBounds_toArray, List.set_cons_zero, List.set_cons_succ]
  refine wpAnyZ_one (i := 11) (by kernel_rfl) rfl (fun K hK => ?_)
  go_simp
  refine hK.out _ _ (fun _ => ⟨g0,g1,g2,g3,g4,g5,g6,g7⟩) ?_
  clear hK K
  try simp only [Act.put, List.setIfInBounds_toArray, List.set_cons_zero, List.set_cons_succ]
  refine wpAnyZ_one (i := 12) (by kernel_rfl) rfl (fun K hK => ?_)
  go_simp
  refine hK.out _ _ (fun h => absurd rfl h) ?_
  refine wpAnyZ_done (by kernel_rfl) ?_ _
  clear hK K
  clear g0 g1 g2 g3 g4 g5 g6 g7 q0 q1 q2 q3 q4 q5 q6 q7 fq0 fq1 fq2 fq3 fq4 fq5 fq6 fq7 e0 e1 e2 e3 e4 e5 e6 e7 d0 d1 d2 d3 d4 d5 d6 d7 b0 b1 b2 b3 b4 b5 b6 b7 
  have hr9 : Blk ((((((((w6.setCell ⟨w.heap.size + 1, 0, none⟩ (.int .i64 (1))).setCell ⟨w.heap.size + 1, 1, none⟩ (.int .i64 (3))).setCell ⟨w.heap.size + 1, 2, none⟩ (.int .i64 (hd))).setCell ⟨w.heap.size + 1, 3, none⟩ (.slice ao ln cap)).setCell ⟨w.heap.size + 1, 4, none⟩ (.int .u32 (item))).setCell ⟨w.heap.size + 1, 5, none⟩ (.int .u64 (h))).setCell ⟨w.heap.size + 1, 6, none⟩ (.int .u32 (link))).setCell ⟨w.heap.size + 1, 7, none⟩ (.int .i64 (tries))) (w.heap.size + 1) 55 [.int .i64 (1), .int .i64 (3), .int .i64 (hd), .slice ao ln cap, .int .u32 (item), .int .u64 (h), .int .u32 (link), .int .i64 (tries)] := ((((((((hr6.set' 0 (.int .i64 (1)) rfl).set' 1 (.int .i64 (3)) rfl).set' 2 (.int .i64 (hd)) rfl).set' 3 (.slice ao ln cap) rfl).set' 4 (.int .u32 (item)) rfl).set' 5 (.int .u64 (h)) rfl).set' 6 (.int .u32 (link)) rfl).set' 7 (.int .i64 (tries)) rfl)
  have hk9 : Kept w ((((((((w6.setCell ⟨w.heap.size + 1, 0, none⟩ (.int .i64 (1))).setCell ⟨w.heap.size + 1, 1, none⟩ (.int .i64 (3))).setCell ⟨w.heap.size + 1, 2, none⟩ (.int .i64 (hd))).setCell ⟨w.heap.size + 1, 3, none⟩ (.slice ao ln cap)).setCell ⟨w.heap.size + 1, 4, none⟩ (.int .u32 (item))).setCell ⟨w.heap.size + 1, 5, none⟩ (.int .u64 (h))).setCell ⟨w.heap.size + 1, 6, none⟩ (.int .u32 (link))).setCell ⟨w.heap.size + 1, 7, none⟩ (.int .i64 (tries))) := (Below.setCell (Below.setCell (Below.setCell (Below.setCell (Below.setCell (Below.setCell (Below.setCell (Below.setCell hk6 (p := ⟨w.heap.size + 1, 0, none⟩) (by simp) _) (p := ⟨w.heap.size + 1, 1, none⟩) (by simp) _) (p := ⟨w.heap.size + 1, 2, none⟩) (by simp) _) (p := ⟨w.heap.size + 1, 3, none⟩) (by simp) _) (p := ⟨w.heap.size + 1, 4, none⟩) (by simp) _) (p := ⟨w.heap.size + 1, 5, none⟩) (by simp) _) (p := ⟨w.heap.size + 1, 6, none⟩) (by simp) _) (p := ⟨w.heap.size + 1, 7, none⟩) (by simp) _)
  have hc9 : Chg (fun q => q = w.heap.size + 1) w6 ((((((((w6.setCell ⟨w.heap.size + 1, 0, none⟩ (.int .i64 (1))).setCell ⟨w.heap.size + 1, 1, none⟩ (.int .i64 (3))).setCell ⟨w.heap.size + 1, 2, none⟩ (.int .i64 (hd))).setCell ⟨w.heap.size + 1, 3, none⟩ (.slice ao ln cap)).setCell ⟨w.heap.size + 1, 4, none⟩ (.int .u32 (item))).setCell ⟨w.heap.size + 1, 5, none⟩ (.int .u64 (h))).setCell ⟨w.heap.size + 1, 6, none⟩ (.int .u32 (link))).setCell ⟨w.heap.size + 1, 7, none⟩ (.int .i64 (tries))) := (((((((((Chg.refl (fun q => q = w.heap.size + 1) w6).setCell ⟨w.heap.size + 1, 0, none⟩ (.int .i64 (1)) (fun _ => rfl)).setCell ⟨w.heap.size + 1, 1, none⟩ (.int .i64 (3)) (fun _ => rfl)).setCell ⟨w.heap.size + 1, 2, none⟩ (.int .i64 (hd)) (fun _ => rfl)).setCell ⟨w.heap.size + 1, 3, none⟩ (.slice ao ln cap) (fun _ => rfl)).setCell ⟨w.heap.size + 1, 4, none⟩ (.int .u32 (item)) (fun _ => rfl)).setCell ⟨w.heap.size + 1, 5, none⟩ (.int .u64 (h)) (fun _ => rfl)).setCell ⟨w.heap.size + 1, 6, none⟩ (.int .u32 (link)) (fun _ => rfl)).setCell ⟨w.heap.size + 1, 7, none⟩ (.int .i64 (tries)) (fun _ => rfl))
  have hm9 : MemV ((((((((w6.setCell ⟨w.heap.size + 1, 0, none⟩ (.int .i64 (1))).setCell ⟨w.heap.size + 1, 1, none⟩ (.int .i64 (3))).setCell ⟨w.heap.size + 1, 2, none⟩ (.int .i64 (hd))).setCell ⟨w.heap.size + 1, 3, none⟩ (.slice ao ln cap)).setCell ⟨w.heap.size + 1, 4, none⟩ (.int .u32 (item))).setCell ⟨w.heap.size + 1, 5, none⟩ (.int .u64 (h))).setCell ⟨w.heap.size + 1, 6, none⟩ (.int .u32 (link))).setCell ⟨w.heap.size + 1, 7, none⟩ (.int .i64 (tries))) l' _ := (HM.out w (Below.refl _ _)).past hl' (by simp [mput_len]) (fun q e => by have := hr5.lt; omega) hown6 hc9
  generalize ((((((((w6.setCell ⟨w.heap.size + 1, 0, none⟩ (.int .i64 (1))).setCell ⟨w.heap.size + 1, 1, none⟩ (.int .i64 (3))).setCell ⟨w.heap.size + 1, 2, none⟩ (.int .i64 (hd))).setCell ⟨w.heap.size + 1, 3, none⟩ (.slice ao ln cap)).setCell ⟨w.heap.size + 1, 4, none⟩ (.int .u32 (item))).setCell ⟨w.heap.size + 1, 5, none⟩ (.int .u64 (h))).setCell ⟨w.heap.size + 1, 6, none⟩ (.int .u32 (link))).setCell ⟨w.heap.size + 1, 7, none⟩ (.int .i64 (tries))) = w9 at *
  have k0 := hr9.cell 0
  have k1 := hr9.cell 1
  have k2 := hr9.cell 2
  have k3 := hr9.cell 3
  have k4 := hr9.cell 4
  have k5 := hr9.cell 5
  have k6 := hr9.cell 6
  have k7 := hr9.cell 7
  simp only [List.getElem?_cons_zero, List.getElem?_cons_succ] at k0 k1 k2 k3 k4 k5 k6 k7
  go_wp2_with fail
  exact bodyPost_ret (v := .tuple #[l', .agg ([.int .i64 (1), .int .i64 (3), .int .i64 (hd), .slice ao ln cap, .int .u32 (item), .int .u64 (h), .int .u32 (link), .int .i64 (tries)] : List Value).toArray]) (by simp [results, Tryz.results80, go_sem, k0, k1, k2, k3, k4, k5, k6, k7]) rfl ⟨_, _, rfl, hm9, ⟨⟨hi0, hi1⟩, hU, ⟨hl0, hl1⟩, 1, tries, rfl, HR.out _ hk9, fun _ => rfl, fun e => e.elim⟩, hk9, fun g e => (hown6 g e).imp id (fun e => by have := hk5.size; omega)⟩

set_option maxRecDepth 8000 in
set_option maxHeartbeats 3200000 in
theorem turn_ref {mem Ls : List Int} {l vl : Value} {kind hd item hw link tries low : Int} (w : World) (hv : Row w vl (Ls.map (Value.int .i64))) (hm : MemV w l mem) (hlen : mem.length ≤ 20000) (hU : U hw) (hlo : 0 ≤ low ∧ low < 4294967296) :
    Calls Tryz.prog 100 #[l, .agg (r9L kind 3 hd vl item hw link tries).toArray, .int .u32 low] w fun e w' => ∃ l', e = .returned (.tuple #[l', .agg (r9L kind (if mhit mem hd hw then 0 else 1) hd vl item hw link tries).toArray]) ∧ MemV w' l' (if mhit mem hd hw then mput mem hd (turnI hw low) else mem) ∧ Kept w w' ∧ (∀ g, l'.ownBlock = some g → l' = l ∨ w.heap.size ≤ g) := by
  obtain ⟨ao, cap, hvl⟩ := hv.form
  obtain ⟨ln, hln⟩ : ∃ ln, ln = (Ls.map (Value.int .i64)).length := ⟨_, rfl⟩
  rw [← hln] at hvl
  subst hvl
  clear hln hv
  obtain ⟨mo, mc, hmv⟩ := hm.form
  obtain ⟨ml, hml⟩ : ∃ ml, ml = (mem.map (Value.int .u64)).length := ⟨_, rfl⟩
  rw [← hml] at hmv
  subst hmv
  clear hml
  have HM : Hid (∀ W, Kept w W → MemV W (.slice mo ml mc) mem) := fun W k => hm.kept k
  clear hm
  have hhi := hiI_bound hU.1 (by have := hU.2; omega)
  obtain ⟨hit, hh⟩ : ∃ b, mhit mem hd hw = b := ⟨_, rfl⟩
  have HH : Hid (mhit mem hd hw = hit) := hh
  rw [hh]
  clear hh
  obtain ⟨hl0, hl1⟩ := hlo
  obtain ⟨hU0, hU1⟩ := hU
  have yhi : IntKind.u32.wrap (hiI hw + 1) = (hiI hw + 1) % 4294967296 := IntKind.wrap_u32 _
  have hp0 : 0 ≤ (hiI hw + 1) % 4294967296 ∧ (hiI hw + 1) % 4294967296 < 4294967296 := by omega
  obtain ⟨ph, hph⟩ : ∃ ph, (hiI hw + 1) % 4294967296 = ph := ⟨_, rfl⟩
  have HT : Hid (ph * 4294967296 + low = turnI hw low) := by unfold Hid turnI; rw [hph]
  rw [hph] at yhi hp0
  clear hph
  have htb := turnI_bound (w := hw) hl0 hl1
  generalize turnI hw low = tn at *
  have hb0 := Blk.new w 55 [.int .i64 (kind), .int .i64 (3), .int .i64 (hd), .slice ao ln cap, .int .u32 (item), .int .u64 (hw), .int .u32 (link), .int .i64 (tries)]
  have hk0 : Kept w (w.alloc (.cells ([.int .i64 (kind), .int .i64 (3), .int .i64 (hd), .slice ao ln cap, .int .u32 (item), .int .u64 (hw), .int .u32 (link), .int .i64 (tries)] : List Value).toArray 55)) := (Below.refl _ _).alloc (Nat.le_refl _) _
  have z0 : (w.alloc (.cells ([.int .i64 (kind), .int .i64 (3), .int .i64 (hd), .slice ao ln cap, .int .u32 (item), .int .u64 (hw), .int .u32 (link), .int .i64 (tries)] : List Value).toArray 55)).heap.size = w.heap.size + 1 := by simp
  go_enter Tryz.func100, Tryz.ntmps100
  go_wp2_with fail
  generalize w.alloc (.cells ([.int .i64 (kind), .int .i64 (3), .int .i64 (hd), .slice ao ln cap, .int .u32 (item), .int .u64 (hw), .int .u32 (link), .int .i64 (tries)] : List Value).toArray 55) = w1 at *
  have hr0 := Blk.new w1 55 [.int .i64 0, .int .i64 0, .int .i64 0, .slice none 0 0, .int .u32 0, .int .u64 0, .int .u32 0, .int .i64 0]
  rw [z0] at hr0
  have hk1 : Kept w1 (w1.alloc (.cells ([.int .i64 0, .int .i64 0, .int .i64 0, .slice none 0 0, .int .u32 0, .int .u64 0, .int .u32 0, .int .i64 0] : List Value).toArray 55)) := (Below.refl _ _).alloc (Nat.le_refl _) _
  have z1 : (w1.alloc (.cells ([.int .i64 0, .int .i64 0, .int .i64 0, .slice none 0 0, .int .u32 0, .int .u64 0, .int .u32 0, .int .i64 0] : List Value).toArray 55)).heap.size = w.heap.size + 2 := by simp [z0]
  generalize w1.alloc (.cells ([.int .i64 0, .int .i64 0, .int .i64 0, .slice none 0 0, .int .u32 0, .int .u64 0, .int .u32 0, .int .i64 0] : List Value).toArray 55) = w2 at *
  have hb := hk1.blk hb0
  have hr := hr0
  have hk : Kept w w2 := hk0.trans' hk1
  clear hb0 hr0 hk0 hk1 z0
  have hbD := hb.drew
  have hrD := hr.drew
  have hkD : Kept w w2.drew := hk.drew
  have b0 := hb.cell 0
  have b1 := hb.cell 1
  have b2 := hb.cell 2
  have b3 := hb.cell 3
  have b4 := hb.cell 4
  have b5 := hb.cell 5
  have b6 := hb.cell 6
  have b7 := hb.cell 7
  simp only [List.getElem?_cons_zero, List.getElem?_cons_succ] at b0 b1 b2 b3 b4 b5 b6 b7
  have d0 := hbD.cell 0
  have d1 := hbD.cell 1
  have d2 := hbD.cell 2
  have d3 := hbD.cell 3
  have d4 := hbD.cell 4
  have d5 := hbD.cell 5
  have d6 := hbD.cell 6
  have d7 := hbD.cell 7
  simp only [List.getElem?_cons_zero, List.getElem?_cons_succ] at d0 d1 d2 d3 d4 d5 d6 d7
  go_wp2_with fail
  refine wp_region_z 17 (fun w' => w'.cell? ⟨w.heap.size, 0, none⟩ = some (.int .i64 (kind)) ∧ w'.cell? ⟨w.heap.size, 1, none⟩ = some (.int .i64 (3)) ∧ w'.cell? ⟨w.heap.size, 2, none⟩ = some (.int .i64 (hd)) ∧ w'.cell? ⟨w.heap.size, 3, none⟩ = some (.slice ao ln cap) ∧ w'.cell? ⟨w.heap.size, 4, none⟩ = some (.int .u32 (item)) ∧ w'.cell? ⟨w.heap.size, 5, none⟩ = some (.int .u64 (hw)) ∧ w'.cell? ⟨w.heap.size, 6, none⟩ = some (.int .u32 (link)) ∧ w'.cell? ⟨w.heap.size, 7, none⟩ = some (.int .i64 (tries))) (by kernel_rfl) ?_
  refine wpAnyZ_take (i := 0) (v := ?v0z5) rfl (by kernel_rfl) (by kernel_rfl) (by kernel_rfl) (by kernel_rfl) (fun _ _ _ h => h) (Or.inl ⟨by rfl, ?hy0z5⟩) ⟨d0,d1,d2,d3,d4,d5,d6,d7⟩ ?_
  case hy0z5 => intro w hSw; (try dsimp only at hSw); first | (go_simp; done) | (go_simp; with_reducible rfl)
  try simp only [Act.put, List.setIfInBounds_toArray]
  refine wpAnyZ_take (i := 1) (v := ?v1z5) rfl (by kernel_rfl) (by kernel_rfl) (by kernel_rfl) (by kernel_rfl) (fun _ _ _ h => h) (Or.inl ⟨by rfl, ?hy1z5⟩) ⟨d0,d1,d2,d3,d4,d5,d6,d7⟩ ?_
  case hy1z5 => intro w hSw; (try dsimp only at hSw); first | (go_simp; done) | (go_simp; with_reducible rfl)
  try simp only [Act.put]
  refine wpAnyZ_take (i := 2) (v := ?v2z5) rfl (by kernel_rfl) (by kernel_rfl) (by kernel_rfl) (by kernel_rfl) (fun _ _ _ h => h) (Or.inl ⟨by rfl, ?hy2z5⟩) ⟨d0,d1,d2,d3,d4,d5,d6,d7⟩ ?_
  case hy2z5 => intro w hSw; (try dsimp only at hSw); first | (go_simp; done) | (go_simp; with_reducible rfl)
  try simp only [Act.put]
  refine wpAnyZ_take (i := 3) (v := ?v3z5) rfl (by kernel_rfl) (by kernel_rfl) (by kernel_rfl) (by kernel_rfl) (fun _ _ _ h => h) (Or.inl ⟨by rfl, ?hy3z5⟩) ⟨d0,d1,d2,d3,d4,d5,d6,d7⟩ ?_
  case hy3z5 => intro w hSw; (try dsimp only at hSw); first | (go_simp; done) | (go_simp; with_reducible rfl)
  try simp only [Act.put]
  refine wpAnyZ_take (i := 4) (v := ?v4z5) rfl (by kernel_rfl) (by kernel_rfl) (by kernel_rfl) (by kernel_rfl) (fun _ _ _ h => h) (Or.inl ⟨by rfl, ?hy4z5⟩) ⟨d0,d1,d2,d3,d4,d5,d6,d7⟩ ?_
  case hy4z5 => intro w hSw; (try dsimp only at hSw); first | (go_simp; done) | (go_simp; with_reducible rfl)
  try simp only [Act.put]
  refine wpAnyZ_take (i := 5) (v := ?v5z5) rfl (by kernel_rfl) (by kernel_rfl) (by kernel_rfl) (by kernel_rfl) (fun _ _ _ h => h) (Or.inl ⟨by rfl, ?hy5z5⟩) ⟨d0,d1,d2,d3,d4,d5,d6,d7⟩ ?_
  case hy5z5 => intro w hSw; (try dsimp only at hSw); first | (go_simp; done) | (go_simp; with_reducible rfl)
  try simp only [Act.put]
  refine wpAnyZ_take (i := 6) (v := ?v6z5) rfl (by kernel_rfl) (by kernel_rfl) (by kernel_rfl) (by kernel_rfl) (fun _ _ _ h => h) (Or.inl ⟨by rfl, ?hy6z5⟩) ⟨d0,d1,d2,d3,d4,d5,d6,d7⟩ ?_
  case hy6z5 => intro w hSw; (try dsimp only at hSw); first | (go_simp; done) | (go_simp; with_reducible rfl)
  try simp only [Act.put]
  refine wpAnyZ_take (i := 7) (v := ?v7z5) rfl (by kernel_rfl) (by kernel_rfl) (by kernel_rfl) (by kernel_rfl) (fun _ _ _ h => h) (Or.inl ⟨by rfl, ?hy7z5⟩) ⟨d0,d1,d2,d3,d4,d5,d6,d7⟩ ?_
  case hy7z5 => intro w hSw; (try dsimp only at hSw); first | (go_simp; done) | (go_simp; with_reducible rfl)
  try simp only [Act.put]
  refine wpAnyZ_take (i := 10) (v := ?v10z5) rfl (by kernel_rfl) (by kernel_rfl) (by kernel_rfl) (by kernel_rfl) (fun _ _ _ h => h) (Or.inl ⟨by rfl, ?hy10z5⟩) ⟨d0,d1,d2,d3,d4,d5,d6,d7⟩ ?_
  case hy10z5 => intro w hSw; (try dsimp only at hSw); first | (go_simp; done) | (go_simp; with_reducible rfl)
  try simp only [Act.put]
  refine wpAnyZ_one (i := 8) (by kernel_rfl) rfl (fun K hK => ?_)
  go_simp
  go_at_call 109
  refine (high_ref hw _ ⟨hU0, hU1⟩).mono ?_; rintro e wx ⟨rfl, rfl⟩
  refine hK.out _ _ (fun _ => ⟨d0,d1,d2,d3,d4,d5,d6,d7⟩) ?_
  clear hK K
  try simp only [Act.put, List.setIfInBounds_toArray, List.set_cons_zero, List.set_cons_succ]
  refine wpAnyZ_one (i := 9) (by kernel_rfl) rfl (fun K hK => ?_)
  go_simp
  refine hK.out _ _ (fun _ => ⟨d0,d1,d2,d3,d4,d5,d6,d7⟩) ?_
  clear hK K
  try simp only [Act.put, List.setIfInBounds_toArray, List.set_cons_zero, List.set_cons_succ]
  refine wpAnyZ_one (i := 11) (by kernel_rfl) rfl (fun K hK => ?_)
  go_simp
  go_at_call 108
  refine (pair_ref ph low _ hp0 ⟨hl0, hl1⟩).mono ?_; rintro e wx ⟨rfl, rfl⟩
  rw [HT.out]
  refine hK.out _ _ (fun _ => ⟨d0,d1,d2,d3,d4,d5,d6,d7⟩) ?_
  clear hK K
  try simp only [Act.put, List.setIfInBounds_toArray, List.set_cons_zero, List.set_cons_succ]
  refine wpAnyZ_one (i := 12) (by kernel_rfl) rfl (fun K hK => ?_)
  go_simp
  go_at_call 97
  refine (swapL_ref hd hw tn _ (HM.out _ hkD) hlen).mono ?_; rintro e w6 ⟨l', rfl, hl', hkc6, hown6⟩
  rw [HH.out] at hl' ⊢
  have hb6 := hkc6.blk hbD
  have hr6 := hkc6.blk hrD
  have hk6 := Kept.trans' hkD hkc6
  have g0 := hb6.cell 0
  have g1 := hb6.cell 1
  have g2 := hb6.cell 2
  have g3 := hb6.cell 3
  have g4 := hb6.cell 4
  have g5 := hb6.cell 5
  have g6 := hb6.cell 6
  have g7 := hb6.cell 7
  simp only [List.getElem?_cons_zero, List.getElem?_cons_succ] at g0 g1 g2 g3 g4 g5 g6 g7
  have q0 := hr6.cell 0
  have q1 := hr6.cell 1
  have q2 := hr6.cell 2
  have q3 := hr6.cell 3
  have q4 := hr6.cell 4
  have q5 := hr6.cell 5
  have q6 := hr6.cell 6
  have q7 := hr6.cell 7
  have fq0 := hr6.free 0
  have fq1 := hr6.free 1
  have fq2 := hr6.free 2
  have fq3 := hr6.free 3
  have fq4 := hr6.free 4
  have fq5 := hr6.free 5
  have fq6 := hr6.free 6
  have fq7 := hr6.free 7
  simp only [List.getElem?_cons_zero, List.getElem?_cons_succ] at q0 q1 q2 q3 q4 q5 q6 q7
  refine hK.out _ _ (fun _ => ⟨g0,g1,g2,g3,g4,g5,g6,g7⟩) ?_
  clear hK K
  try simp only [Act.put, List.setIfInBounds_toArray, List.set_cons_zero, List.set_cons_succ]
  refine wpAnyZ_one (i := 13) (by kernel_rfl) rfl (fun K hK => ?_)
  go_simp
  refine hK.out _ _ (fun _ => ⟨g0,g1,g2,g3,g4,g5,g6,g7⟩) ?_
  clear hK K
  try simp only [Act.put, List.setIfInBounds_toArray, List.set_cons_zero, List.set_cons_succ]
  refine wpAnyZ_take (i := 14) (v := ?v14z6) rfl (by kernel_rfl) (by kernel_rfl) (by kernel_rfl) (by kernel_rfl) (fun _ _ _ h => h) (Or.inl ⟨by rfl, ?hy14z6⟩) ⟨g0,g1,g2,g3,g4,g5,g6,g7⟩ ?_
  case hy14z6 => intro w hSw; (try dsimp only at hSw); first | (go_simp; done) | (go_simp; with_reducible rfl)
  try simp only [Act.put, List.setIfInBounds_toArray]
  refine wpAnyZ_take (i := 15) (v := ?v15z6) rfl (by kernel_rfl) (by kernel_rfl) (by kernel_rfl) (by kernel_rfl) (fun _ _ _ h => h) (Or.inl ⟨by rfl, ?hy15z6⟩) ⟨g0,g1,g2,g3,g4,g5,g6,g7⟩ ?_
  case hy15z6 => intro w hSw; (try dsimp only at hSw); first | (go_simp; done) | (go_simp; with_reducible rfl)
  try simp only [Act.put]
  refine wpAnyZ_one (i := 16) (by kernel_rfl) rfl (fun K hK => ?_)
  go_simp
  refine hK.out _ _ (fun _ => ⟨g0,g1,g2,g3,g4,g5,g6,g7⟩) ?_
  clear hK K
  try simp only [Act.put, List.setIfInBounds_toArray, List.set_cons_zero, List.set_cons_succ]
  refine wpAnyZ_one (i := 17) (by kernel_rfl) rfl (fun K hK => ?_)
  go_simp
  refine hK.out _ _ (fun h => absurd rfl h) ?_
  refine wpAnyZ_done (by kernel_rfl) ?_ _
  clear hK K
  clear q0 q1 q2 q3 q4 q5 q6 q7 fq0 fq1 fq2 fq3 fq4 fq5 fq6 fq7 d0 d1 d2 d3 d4 d5 d6 d7 b0 b1 b2 b3 b4 b5 b6 b7  hb hr hk hbD hrD hkD
  have hN : w2.drew.heap.size = w.heap.size + 2 := z1
  rw [hN] at hown6
  have hcL : Chg (fun q => q = w.heap.size ∨ q = w.heap.size + 1) w6 w6 := Chg.refl _ _
  have hb := hb6
  have hr := hr6
  have hk := hk6
  have fg1 := hb6.free 1
  clear hb6 hr6 hk6
  cases hit
  · simp only [Bool.false_eq_true, ↓reduceIte] at hl' ⊢
    go_wp2_with fail
    clear g0 g1 g2 g3 g4 g5 g6 g7  fg1
    have hb7 : Blk (w6.setCell ⟨w.heap.size, 1, none⟩ (.int .i64 (1))) (w.heap.size) 55 [.int .i64 (kind), .int .i64 (1), .int .i64 (hd), .slice ao ln cap, .int .u32 (item), .int .u64 (hw), .int .u32 (link), .int .i64 (tries)] := (hb.set' 1 (.int .i64 (1)) rfl)
    have hcx := ((Chg.refl (fun q => q = w.heap.size) w6).setCell ⟨w.heap.size, 1, none⟩ (.int .i64 (1)) (fun _ => rfl))
    replace hr := hcx.blk hr (by simp)
    replace hcL := hcL.trans (hcx.mono (fun q _ e => .inl e))
    replace hk := hk.trans (hcx.toBelow (B := w.heap.size) (by have := hk.size; omega) (fun q hq e => by omega))
    generalize (w6.setCell ⟨w.heap.size, 1, none⟩ (.int .i64 (1))) = w7 at *
    clear hcx hb
    have hb := hb7
    clear hb7
    have b0 := hb.cell 0
    have b1 := hb.cell 1
    have b2 := hb.cell 2
    have b3 := hb.cell 3
    have b4 := hb.cell 4
    have b5 := hb.cell 5
    have b6 := hb.cell 6
    have b7 := hb.cell 7
    simp only [List.getElem?_cons_zero, List.getElem?_cons_succ] at b0 b1 b2 b3 b4 b5 b6 b7
    have r0 := hr.cell 0
    have r1 := hr.cell 1
    have r2 := hr.cell 2
    have r3 := hr.cell 3
    have r4 := hr.cell 4
    have r5 := hr.cell 5
    have r6 := hr.cell 6
    have r7 := hr.cell 7
    have fr0 := hr.free 0
    have fr1 := hr.free 1
    have fr2 := hr.free 2
    have fr3 := hr.free 3
    have fr4 := hr.free 4
    have fr5 := hr.free 5
    have fr6 := hr.free 6
    have fr7 := hr.free 7
    simp only [List.getElem?_cons_zero, List.getElem?_cons_succ] at r0 r1 r2 r3 r4 r5 r6 r7
    have hbD := hb.drew
    have hrD := hr.drew
    have d0 := hbD.cell 0
    have d1 := hbD.cell 1
    have d2 := hbD.cell 2
    have d3 := hbD.cell 3
    have d4 := hbD.cell 4
    have d5 := hbD.cell 5
    have d6 := hbD.cell 6
    have d7 := hbD.cell 7
    simp only [List.getElem?_cons_zero, List.getElem?_cons_succ] at d0 d1 d2 d3 d4 d5 d6 d7
    have s0 := hrD.cell 0
    have s1 := hrD.cell 1
    have s2 := hrD.cell 2
    have s3 := hrD.cell 3
    have s4 := hrD.cell 4
    have s5 := hrD.cell 5
    have s6 := hrD.cell 6
    have s7 := hrD.cell 7
    have fs0 := hrD.free 0
    have fs1 := hrD.free 1
    have fs2 := hrD.free 2
    have fs3 := hrD.free 3
    have fs4 := hrD.free 4
    have fs5 := hrD.free 5
    have fs6 := hrD.free 6
    have fs7 := hrD.free 7
    simp only [List.getElem?_cons_zero, List.getElem?_cons_succ] at s0 s1 s2 s3 s4 s5 s6 s7
    go_wp2_with fail
    go_region
    have hr9 : Blk (((((((((w7.setCell ⟨w.heap.size + 1, 0, none⟩ (.int .i64 (kind))).setCell ⟨w.heap.size + 1, 1, none⟩ (.int .i64 (1))).setCell ⟨w.heap.size + 1, 2, none⟩ (.int .i64 (hd))).setCell ⟨w.heap.size + 1, 3, none⟩ (.slice ao ln cap)).setCell ⟨w.heap.size + 1, 4, none⟩ (.int .u32 (item))).setCell ⟨w.heap.size + 1, 5, none⟩ (.int .u64 (hw))).setCell ⟨w.heap.size + 1, 6, none⟩ (.int .u32 (link))).setCell ⟨w.heap.size + 1, 7, none⟩ (.int .i64 (tries)))).drew (w.heap.size + 1) 55 [.int .i64 (kind), .int .i64 (1), .int .i64 (hd), .slice ao ln cap, .int .u32 (item), .int .u64 (hw), .int .u32 (link), .int .i64 (tries)] := (((((((((hr.set' 0 (.int .i64 (kind)) rfl).set' 1 (.int .i64 (1)) rfl).set' 2 (.int .i64 (hd)) rfl).set' 3 (.slice ao ln cap) rfl).set' 4 (.int .u32 (item)) rfl).set' 5 (.int .u64 (hw)) rfl).set' 6 (.int .u32 (link)) rfl).set' 7 (.int .i64 (tries)) rfl)).drew
    have hc9 : Chg (fun q => q = w.heap.size ∨ q = w.heap.size + 1) w6 (((((((((w7.setCell ⟨w.heap.size + 1, 0, none⟩ (.int .i64 (kind))).setCell ⟨w.heap.size + 1, 1, none⟩ (.int .i64 (1))).setCell ⟨w.heap.size + 1, 2, none⟩ (.int .i64 (hd))).setCell ⟨w.heap.size + 1, 3, none⟩ (.slice ao ln cap)).setCell ⟨w.heap.size + 1, 4, none⟩ (.int .u32 (item))).setCell ⟨w.heap.size + 1, 5, none⟩ (.int .u64 (hw))).setCell ⟨w.heap.size + 1, 6, none⟩ (.int .u32 (link))).setCell ⟨w.heap.size + 1, 7, none⟩ (.int .i64 (tries)))).drew := ((((((((hcL.setCell ⟨w.heap.size + 1, 0, none⟩ (.int .i64 (kind)) (fun _ => .inr rfl)).setCell ⟨w.heap.size + 1, 1, none⟩ (.int .i64 (1)) (fun _ => .inr rfl)).setCell ⟨w.heap.size + 1, 2, none⟩ (.int .i64 (hd)) (fun _ => .inr rfl)).setCell ⟨w.heap.size + 1, 3, none⟩ (.slice ao ln cap) (fun _ => .inr rfl)).setCell ⟨w.heap.size + 1, 4, none⟩ (.int .u32 (item)) (fun _ => .inr rfl)).setCell ⟨w.heap.size + 1, 5, none⟩ (.int .u64 (hw)) (fun _ => .inr rfl)).setCell ⟨w.heap.size + 1, 6, none⟩ (.int .u32 (link)) (fun _ => .inr rfl)).setCell ⟨w.heap.size + 1, 7, none⟩ (.int .i64 (tries)) (fun _ => .inr rfl)).drew
    have hk9 : Kept w (((((((((w7.setCell ⟨w.heap.size + 1, 0, none⟩ (.int .i64 (kind))).setCell ⟨w.heap.size + 1, 1, none⟩ (.int .i64 (1))).setCell ⟨w.heap.size + 1, 2, none⟩ (.int .i64 (hd))).setCell ⟨w.heap.size + 1, 3, none⟩ (.slice ao ln cap)).setCell ⟨w.heap.size + 1, 4, none⟩ (.int .u32 (item))).setCell ⟨w.heap.size + 1, 5, none⟩ (.int .u64 (hw))).setCell ⟨w.heap.size + 1, 6, none⟩ (.int .u32 (link))).setCell ⟨w.heap.size + 1, 7, none⟩ (.int .i64 (tries)))).drew := Below.drew (Below.setCell (Below.setCell (Below.setCell (Below.setCell (Below.setCell (Below.setCell (Below.setCell (Below.setCell hk (p := ⟨w.heap.size + 1, 0, none⟩) (by simp) _) (p := ⟨w.heap.size + 1, 1, none⟩) (by simp) _) (p := ⟨w.heap.size + 1, 2, none⟩) (by simp) _) (p := ⟨w.heap.size + 1, 3, none⟩) (by simp) _) (p := ⟨w.heap.size + 1, 4, none⟩) (by simp) _) (p := ⟨w.heap.size + 1, 5, none⟩) (by simp) _) (p := ⟨w.heap.size + 1, 6, none⟩) (by simp) _) (p := ⟨w.heap.size + 1, 7, none⟩) (by simp) _)
    generalize (((((((((w7.setCell ⟨w.heap.size + 1, 0, none⟩ (.int .i64 (kind))).setCell ⟨w.heap.size + 1, 1, none⟩ (.int .i64 (1))).setCell ⟨w.heap.size + 1, 2, none⟩ (.int .i64 (hd))).setCell ⟨w.heap.size + 1, 3, none⟩ (.slice ao ln cap)).setCell ⟨w.heap.size + 1, 4, none⟩ (.int .u32 (item))).setCell ⟨w.heap.size + 1, 5, none⟩ (.int .u64 (hw))).setCell ⟨w.heap.size + 1, 6, none⟩ (.int .u32 (link))).setCell ⟨w.heap.size + 1, 7, none⟩ (.int .i64 (tries)))).drew = w9 at *
    clear b0 b1 b2 b3 b4 b5 b6 b7  r0 r1 r2 r3 r4 r5 r6 r7 fr0 fr1 fr2 fr3 fr4 fr5 fr6 fr7 d0 d1 d2 d3 d4 d5 d6 d7  s0 s1 s2 s3 s4 s5 s6 s7 fs0 fs1 fs2 fs3 fs4 fs5 fs6 fs7
    have k0 := hr9.cell 0
    have k1 := hr9.cell 1
    have k2 := hr9.cell 2
    have k3 := hr9.cell 3
    have k4 := hr9.cell 4
    have k5 := hr9.cell 5
    have k6 := hr9.cell 6
    have k7 := hr9.cell 7
    simp only [List.getElem?_cons_zero, List.getElem?_cons_succ] at k0 k1 k2 k3 k4 k5 k6 k7
    go_wp2_with fail
    exact bodyPost_ret (v := .tuple #[l', .agg ([.int .i64 (kind), .int .i64 (1), .int .i64 (hd), .slice ao ln cap, .int .u32 (item), .int .u64 (hw), .int .u32 (link), .int .i64 (tries)] : List Value).toArray]) (by simp [results, Tryz.results100, go_sem, k0, k1, k2, k3, k4, k5, k6, k7]) rfl ⟨_, rfl, (HM.out w (Below.refl _ _)).past hl' (by simp []) (fun q e => by omega) hown6 hc9, hk9, fun g e => (hown6 g e).imp id (fun e => by omega)⟩
  · simp only [↓reduceIte] at hl' ⊢
    go_wp2_with fail
    clear g0 g1 g2 g3 g4 g5 g6 g7  fg1
    have hb7 : Blk ((w6.setCell ⟨w.heap.size, 1, none⟩ (.int .i64 (1))).setCell ⟨w.heap.size, 1, none⟩ (.int .i64 (0))) (w.heap.size) 55 [.int .i64 (kind), .int .i64 (0), .int .i64 (hd), .slice ao ln cap, .int .u32 (item), .int .u64 (hw), .int .u32 (link), .int .i64 (tries)] := ((hb.set' 1 (.int .i64 (1)) rfl).set' 1 (.int .i64 (0)) rfl)
    have hcx := (((Chg.refl (fun q => q = w.heap.size) w6).setCell ⟨w.heap.size, 1, none⟩ (.int .i64 (1)) (fun _ => rfl)).setCell ⟨w.heap.size, 1, none⟩ (.int .i64 (0)) (fun _ => rfl))
    replace hr := hcx.blk hr (by simp)
    replace hcL := hcL.trans (hcx.mono (fun q _ e => .inl e))
    replace hk := hk.trans (hcx.toBelow (B := w.heap.size) (by have := hk.size; omega) (fun q hq e => by omega))
    generalize ((w6.setCell ⟨w.heap.size, 1, none⟩ (.int .i64 (1))).setCell ⟨w.heap.size, 1, none⟩ (.int .i64 (0))) = w7 at *
    clear hcx hb
    have hb := hb7
    clear hb7
    have b0 := hb.cell 0
    have b1 := hb.cell 1
    have b2 := hb.cell 2
    have b3 := hb.cell 3
    have b4 := hb.cell 4
    have b5 := hb.cell 5
    have b6 := hb.cell 6
    have b7 := hb.cell 7
    simp only [List.getElem?_cons_zero, List.getElem?_cons_succ] at b0 b1 b2 b3 b4 b5 b6 b7
    have r0 := hr.cell 0
    have r1 := hr.cell 1
    have r2 := hr.cell 2
    have r3 := hr.cell 3
    have r4 := hr.cell 4
    have r5 := hr.cell 5
    have r6 := hr.cell 6
    have r7 := hr.cell 7
    have fr0 := hr.free 0
    have fr1 := hr.free 1
    have fr2 := hr.free 2
    have fr3 := hr.free 3
    have fr4 := hr.free 4
    have fr5 := hr.free 5
    have fr6 := hr.free 6
    have fr7 := hr.free 7
    simp only [List.getElem?_cons_zero, List.getElem?_cons_succ] at r0 r1 r2 r3 r4 r5 r6 r7
    have hbD := hb.drew
    have hrD := hr.drew
    have d0 := hbD.cell 0
    have d1 := hbD.cell 1
    have d2 := hbD.cell 2
    have d3 := hbD.cell 3
    have d4 := hbD.cell 4
    have d5 := hbD.cell 5
    have d6 := hbD.cell 6
    have d7 := hbD.cell 7
    simp only [List.getElem?_cons_zero, List.getElem?_cons_succ] at d0 d1 d2 d3 d4 d5 d6 d7
    have s0 := hrD.cell 0
    have s1 := hrD.cell 1
    have s2 := hrD.cell 2
    have s3 := hrD.cell 3
    have s4 := hrD.cell 4
    have s5 := hrD.cell 5
    have s6 := hrD.cell 6
    have s7 := hrD.cell 7
    have fs0 := hrD.free 0
    have fs1 := hrD.free 1
    have fs2 := hrD.free 2
    have fs3 := hrD.free 3
    have fs4 := hrD.free 4
    have fs5 := hrD.free 5
    have fs6 := hrD.free 6
    have fs7 := hrD.free 7
    simp only [List.getElem?_cons_zero, List.getElem?_cons_succ] at s0 s1 s2 s3 s4 s5 s6 s7
    go_wp2_with fail
    go_region
    have hr9 : Blk (((((((((w7.setCell ⟨w.heap.size + 1, 0, none⟩ (.int .i64 (kind))).setCell ⟨w.heap.size + 1, 1, none⟩ (.int .i64 (0))).setCell ⟨w.heap.size + 1, 2, none⟩ (.int .i64 (hd))).setCell ⟨w.heap.size + 1, 3, none⟩ (.slice ao ln cap)).setCell ⟨w.heap.size + 1, 4, none⟩ (.int .u32 (item))).setCell ⟨w.heap.size + 1, 5, none⟩ (.int .u64 (hw))).setCell ⟨w.heap.size + 1, 6, none⟩ (.int .u32 (link))).setCell ⟨w.heap.size + 1, 7, none⟩ (.int .i64 (tries)))).drew (w.heap.size + 1) 55 [.int .i64 (kind), .int .i64 (0), .int .i64 (hd), .slice ao ln cap, .int .u32 (item), .int .u64 (hw), .int .u32 (link), .int .i64 (tries)] := (((((((((hr.set' 0 (.int .i64 (kind)) rfl).set' 1 (.int .i64 (0)) rfl).set' 2 (.int .i64 (hd)) rfl).set' 3 (.slice ao ln cap) rfl).set' 4 (.int .u32 (item)) rfl).set' 5 (.int .u64 (hw)) rfl).set' 6 (.int .u32 (link)) rfl).set' 7 (.int .i64 (tries)) rfl)).drew
    have hc9 : Chg (fun q => q = w.heap.size ∨ q = w.heap.size + 1) w6 (((((((((w7.setCell ⟨w.heap.size + 1, 0, none⟩ (.int .i64 (kind))).setCell ⟨w.heap.size + 1, 1, none⟩ (.int .i64 (0))).setCell ⟨w.heap.size + 1, 2, none⟩ (.int .i64 (hd))).setCell ⟨w.heap.size + 1, 3, none⟩ (.slice ao ln cap)).setCell ⟨w.heap.size + 1, 4, none⟩ (.int .u32 (item))).setCell ⟨w.heap.size + 1, 5, none⟩ (.int .u64 (hw))).setCell ⟨w.heap.size + 1, 6, none⟩ (.int .u32 (link))).setCell ⟨w.heap.size + 1, 7, none⟩ (.int .i64 (tries)))).drew := ((((((((hcL.setCell ⟨w.heap.size + 1, 0, none⟩ (.int .i64 (kind)) (fun _ => .inr rfl)).setCell ⟨w.heap.size + 1, 1, none⟩ (.int .i64 (0)) (fun _ => .inr rfl)).setCell ⟨w.heap.size + 1, 2, none⟩ (.int .i64 (hd)) (fun _ => .inr rfl)).setCell ⟨w.heap.size + 1, 3, none⟩ (.slice ao ln cap) (fun _ => .inr rfl)).setCell ⟨w.heap.size + 1, 4, none⟩ (.int .u32 (item)) (fun _ => .inr rfl)).setCell ⟨w.heap.size + 1, 5, none⟩ (.int .u64 (hw)) (fun _ => .inr rfl)).setCell ⟨w.heap.size + 1, 6, none⟩ (.int .u32 (link)) (fun _ => .inr rfl)).setCell ⟨w.heap.size + 1, 7, none⟩ (.int .i64 (tries)) (fun _ => .inr rfl)).drew
    have hk9 : Kept w (((((((((w7.setCell ⟨w.heap.size + 1, 0, none⟩ (.int .i64 (kind))).setCell ⟨w.heap.size + 1, 1, none⟩ (.int .i64 (0))).setCell ⟨w.heap.size + 1, 2, none⟩ (.int .i64 (hd))).setCell ⟨w.heap.size + 1, 3, none⟩ (.slice ao ln cap)).setCell ⟨w.heap.size + 1, 4, none⟩ (.int .u32 (item))).setCell ⟨w.heap.size + 1, 5, none⟩ (.int .u64 (hw))).setCell ⟨w.heap.size + 1, 6, none⟩ (.int .u32 (link))).setCell ⟨w.heap.size + 1, 7, none⟩ (.int .i64 (tries)))).drew := Below.drew (Below.setCell (Below.setCell (Below.setCell (Below.setCell (Below.setCell (Below.setCell (Below.setCell (Below.setCell hk (p := ⟨w.heap.size + 1, 0, none⟩) (by simp) _) (p := ⟨w.heap.size + 1, 1, none⟩) (by simp) _) (p := ⟨w.heap.size + 1, 2, none⟩) (by simp) _) (p := ⟨w.heap.size + 1, 3, none⟩) (by simp) _) (p := ⟨w.heap.size + 1, 4, none⟩) (by simp) _) (p := ⟨w.heap.size + 1, 5, none⟩) (by simp) _) (p := ⟨w.heap.size + 1, 6, none⟩) (by simp) _) (p := ⟨w.heap.size + 1, 7, none⟩) (by simp) _)
    generalize (((((((((w7.setCell ⟨w.heap.size + 1, 0, none⟩ (.int .i64 (kind))).setCell ⟨w.heap.size + 1, 1, none⟩ (.int .i64 (0))).setCell ⟨w.heap.size + 1, 2, none⟩ (.int .i64 (hd))).setCell ⟨w.heap.size + 1, 3, none⟩ (.slice ao ln cap)).setCell ⟨w.heap.size + 1, 4, none⟩ (.int .u32 (item))).setCell ⟨w.heap.size + 1, 5, none⟩ (.int .u64 (hw))).setCell ⟨w.heap.size + 1, 6, none⟩ (.int .u32 (link))).setCell ⟨w.heap.size + 1, 7, none⟩ (.int .i64 (tries)))).drew = w9 at *
    clear b0 b1 b2 b3 b4 b5 b6 b7  r0 r1 r2 r3 r4 r5 r6 r7 fr0 fr1 fr2 fr3 fr4 fr5 fr6 fr7 d0 d1 d2 d3 d4 d5 d6 d7  s0 s1 s2 s3 s4 s5 s6 s7 fs0 fs1 fs2 fs3 fs4 fs5 fs6 fs7
    have k0 := hr9.cell 0
    have k1 := hr9.cell 1
    have k2 := hr9.cell 2
    have k3 := hr9.cell 3
    have k4 := hr9.cell 4
    have k5 := hr9.cell 5
    have k6 := hr9.cell 6
    have k7 := hr9.cell 7
    simp only [List.getElem?_cons_zero, List.getElem?_cons_succ] at k0 k1 k2 k3 k4 k5 k6 k7
    go_wp2_with fail
    exact bodyPost_ret (v := .tuple #[l', .agg ([.int .i64 (kind), .int .i64 (0), .int .i64 (hd), .slice ao ln cap, .int .u32 (item), .int .u64 (hw), .int .u32 (link), .int .i64 (tries)] : List Value).toArray]) (by simp [results, Tryz.results100, go_sem, k0, k1, k2, k3, k4, k5, k6, k7]) rfl ⟨_, rfl, (HM.out w (Below.refl _ _)).past hl' (by simp [mput_len]) (fun q e => by omega) hown6 hc9, hk9, fun g e => (hown6 g e).imp id (fun e => by omega)⟩
end Go.Proofs.YtfbcadknimfhjaaGreat
