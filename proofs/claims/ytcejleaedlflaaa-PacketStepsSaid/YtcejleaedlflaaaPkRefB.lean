/- Where the document's stacks stand: walked. -/
import Derived.Test.YtcejleaedlflaaaPkRefA
import Derived.Test.YtcejleaedlflaaaPkD
namespace Go.Proofs.Ytcejleaedlflaaa
open Go.RowKit

theorem below_blk0 {w w' : World} {B b : Nat} {t : TypeId} {l : List Value} (k : Below B w w') (h : Blk w b t l) (hb : b < B) : Blk w' b t l := by
  unfold Blk; rw [k.block b hb]; exact h

/-- The packets' links, in their order. -/
def linksL (c : Cfg) : List Int := (List.range (manyI c).toNat).map fun (q : Nat) => pPack c ((q : Int) + 1) 1

theorem linksL_len (c : Cfg) : (linksL c).length = (manyI c).toNat := by simp [linksL]

theorem linksL_get {c : Cfg} {q : Nat} (h : (q : Int) < manyI c) : (linksL c)[q]?.getD 0 = pPack c ((q : Int) + 1) 1 := by
  unfold linksL
  rw [List.getElem?_map, List.getElem?_range (by omega)]; rfl

theorem linksL_take {c : Cfg} {q : Nat} (h : (q : Int) < manyI c) : ((linksL c).take (q + 1)).map (Value.int .i64) = ((linksL c).take q).map (Value.int .i64) ++ [.int .i64 (pPack c ((q : Int) + 1) 1)] := by
  have hl : q < (linksL c).length := by rw [linksL_len]; omega
  have hg := linksL_get h
  rw [List.getElem?_eq_getElem hl] at hg
  rw [List.take_add_one, List.getElem?_eq_getElem hl, List.map_append]
  simp at hg
  simp [hg]

set_option maxRecDepth 8000 in
set_option maxHeartbeats 3200000 in
theorem stack_ref {c : Cfg} {v : Value} {hd : Int} (kind : Int) (w : World) (hg : Good c) (h : MapV w c v) (hhd : placeT c ⟨kind, 0, 0⟩ = hd) :
    Calls Try.prog 56 #[v, .int .i64 kind] w fun e w' => ∃ vl, e = .returned (.agg #[.int .i64 hd, vl]) ∧ Row w' vl ((linksL c).map (Value.int .i64)) ∧ Kept w w' ∧ (∀ g, vl.ownBlock = some g → w.heap.size ≤ g) := by
  have hmb := manyI_bound hg
  obtain ⟨hmb0, hmb1⟩ := hmb
  obtain ⟨i0, hi, hz0, hz1, hz2⟩ := info_parts info_int
  obtain ⟨vl0, rfl, hT⟩ := h
  obtain ⟨ao, cap, rfl, _⟩ := hT.ex
  have HM : Hid (∀ W, Kept w W → MapV W c (.agg #[.slice ao (allT c).length cap, .int .i64 (manyI c)])) := fun W k => ⟨_, rfl, hT.kept k⟩
  have HD : Hid (placeT c ⟨kind, 0, 0⟩ = hd) := hhd
  have HP : Hid (∀ p, placeT c ⟨12, p, 0⟩ = pPack c p 1) := fun p => place_pack hg p 1 (.inr rfl)
  clear hT hhd
  generalize (allT c).length = ln at *
  have hA := Blk.new w 48 [.slice ao ln cap, .int .i64 (manyI c)]
  have hkA : Kept w (w.alloc (.cells ([.slice ao ln cap, .int .i64 (manyI c)] : List Value).toArray 48)) := (Below.refl _ _).alloc (Nat.le_refl _) _
  have z1 : (w.alloc (.cells ([.slice ao ln cap, .int .i64 (manyI c)] : List Value).toArray 48)).heap.size = w.heap.size + 1 := by simp
  go_enter Try.func56, Try.ntmps56
  go_wp2_with fail
  generalize w.alloc (.cells ([.slice ao ln cap, .int .i64 (manyI c)] : List Value).toArray 48) = w1 at *
  have hR := Blk.new w1 55 [.int .i64 0, .slice none 0 0]
  have hkR : Kept w1 (w1.alloc (.cells ([.int .i64 0, .slice none 0 0] : List Value).toArray 55)) := (Below.refl _ _).alloc (Nat.le_refl _) _
  have z2 : (w1.alloc (.cells ([.int .i64 0, .slice none 0 0] : List Value).toArray 55)).heap.size = w.heap.size + 1 + 1 := by simp [z1]
  rw [z1] at hR
  generalize w1.alloc (.cells ([.int .i64 0, .slice none 0 0] : List Value).toArray 55) = w2 at *
  have hA2 := hkR.blk hA
  have hK2 : Kept w w2 := hkA.trans' hkR
  have a0 := hA2.cell 0
  have a1 := hA2.cell 1
  simp only [List.getElem?_cons_zero, List.getElem?_cons_succ] at a0 a1
  clear hA hkA hkR z1
  go_wp2_with fail
  refine (at_ref kind 0 0 w2 (HM.out w2 hK2)).mono ?_; rintro e w3 ⟨rfl, hk3⟩
  rw [HD.out]
  have hA3 := hk3.blk hA2
  have hR3 := hk3.blk hR
  have z3 := hk3.size
  have hK3 : Kept w w3 := hK2.trans' hk3
  have hG := Blk.new w3 55 [.int .i64 hd, .slice none 0 0]
  have hkG : Kept w3 (w3.alloc (.cells ([.int .i64 hd, .slice none 0 0] : List Value).toArray 55)) := (Below.refl _ _).alloc (Nat.le_refl _) _
  have z4 : (w3.alloc (.cells ([.int .i64 hd, .slice none 0 0] : List Value).toArray 55)).heap.size = w3.heap.size + 1 := by simp
  clear a0 a1 hA2 hR hk3 hK2
  go_wp2_with fail
  generalize w3.alloc (.cells ([.int .i64 hd, .slice none 0 0] : List Value).toArray 55) = w4 at *
  have hA4 := hkG.blk hA3
  have hR4 := hkG.blk hR3
  have hK4 : Kept w w4 := hK3.trans' hkG
  obtain ⟨gk, hgk⟩ : ∃ g, g = w3.heap.size := ⟨_, rfl⟩
  rw [← hgk] at hG z3 z4 ⊢
  clear hA3 hR3 hkG hK3 hgk
  go_loopw [6] (fun pv wr => ∃ (q : Nat) (vl : Value), (q : Int) ≤ manyI c ∧ pv = .int .i64 ((q : Int) + 1) ∧ Blk wr gk 55 [.int .i64 hd, vl] ∧ wr.ownsRow (gk + 1) 3 1 vl q (((linksL c).take q).map (Value.int .i64)) ∧ Below gk w4 wr) (fun pv _ => 4000 - (intOf pv).toNat)
  case atStart => exact ⟨0, .slice none 0 0, by omega, rfl, hG, World.ownsRow_nil _ _ _ _, Below.refl _ _⟩
  case round =>
    obtain ⟨q, vl, hq, rfl, hGr, own, hbw⟩ := hrel
    have zr := hbw.size
    have hAr : Blk wr w.heap.size 48 [.slice ao ln cap, .int .i64 (manyI c)] := below_blk0 hbw hA4 (by omega)
    have hRr : Blk wr (w.heap.size + 1) 55 [.int .i64 0, .slice none 0 0] := below_blk0 hbw hR4 (by omega)
    have hKr : Kept w wr := hK4.trans (hbw.mono (by omega))
    obtain ⟨al, cl, rfl⟩ := own_slice own
    have lgk := hGr.lt
    by_cases hlt : (q : Int) + 1 ≤ manyI c
    · have HS := linksL_take (c := c) (q := q) (by omega)
      have HSS : Hid _ := HS
      clear HS
      obtain ⟨p, hp⟩ : ∃ p : Int, (q : Int) + 1 = p := ⟨_, rfl⟩
      have HPP : Hid ((q : Int) + 1 = p) := hp
      rw [hp] at HSS hlt ⊢
      have yp : IntKind.i64.wrap (p + 1) = p + 1 := IntWalk.i64_in _ (by omega)
      obtain ⟨lk, hlk⟩ : ∃ lk : Int, pPack c p 1 = lk := ⟨_, rfl⟩
      rw [hlk] at HSS
      have HLK : Hid (pPack c p 1 = lk) := hlk
      have hAd := hAr.drew
      have hGd := hGr.drew
      have hRd := hRr.drew
      have ownd := own.drew
      have hKd : Kept w wr.drew := hKr.drew
      have a0 := hAd.cell 0
      have a1 := hAd.cell 1
      have g1 := hGd.cell 1
      have a1r := hAr.cell 1
      simp only [List.getElem?_cons_zero, List.getElem?_cons_succ] at a0 a1 g1 a1r
      have hq2 : q < 2000 := by omega
      clear hp hlk
      go_wp2_with fail
      refine wp_region_z 8 (fun w' => w'.cell? ⟨gk, 1, none⟩ = some (.slice al q cl) ∧ w'.cell? ⟨w.heap.size, 0, none⟩ = some (.slice ao ln cap) ∧ w'.cell? ⟨w.heap.size, 1, none⟩ = some (.int .i64 (manyI c))) (by kernel_rfl) ?_
      refine wpAnyZ_take (i := 0) (v := ?v0z3) rfl (by kernel_rfl) (by kernel_rfl) (by kernel_rfl) (by kernel_rfl) (fun _ _ _ h => h) (Or.inl ⟨by rfl, ?hy0z3⟩) ⟨g1,a0,a1⟩ ?_
      case hy0z3 => intro w hSw; (try dsimp only at hSw); first | (go_simp; done) | (go_simp; with_reducible rfl)
      try simp only [Act.put, List.setIfInBounds_toArray]
      refine wpAnyZ_take (i := 1) (v := ?v1z3) rfl (by kernel_rfl) (by kernel_rfl) (by kernel_rfl) (by kernel_rfl) (fun _ _ _ h => h) (Or.inl ⟨by rfl, ?hy1z3⟩) ⟨g1,a0,a1⟩ ?_
      case hy1z3 => intro w hSw; (try dsimp only at hSw); first | (go_simp; done) | (go_simp; with_reducible rfl)
      try simp only [Act.put]
      refine wpAnyZ_take (i := 2) (v := ?v2z3) rfl (by kernel_rfl) (by kernel_rfl) (by kernel_rfl) (by kernel_rfl) (fun _ _ _ h => h) (Or.inl ⟨by rfl, ?hy2z3⟩) ⟨g1,a0,a1⟩ ?_
      case hy2z3 => intro w hSw; (try dsimp only at hSw); first | (go_simp; done) | (go_simp; with_reducible rfl)
      try simp only [Act.put]
      refine wpAnyZ_take (i := 3) (v := ?v3z3) rfl (by kernel_rfl) (by kernel_rfl) (by kernel_rfl) (by kernel_rfl) (fun _ _ _ h => h) (Or.inl ⟨by rfl, ?hy3z3⟩) ⟨g1,a0,a1⟩ ?_
      case hy3z3 => intro w hSw; (try dsimp only at hSw); first | (go_simp; done) | (go_simp; with_reducible rfl)
      try simp only [Act.put]
      refine wpAnyZ_one (i := 4) (by kernel_rfl) rfl (fun K hK => ?_)
      go_simp
      go_at_call 58
      refine (at_ref 12 p 0 _ (HM.out _ hKd)).mono ?_; rintro r w5 ⟨rfl, hk5⟩
      rw [HP.out, HLK.out]
      have hA5 := hk5.blk hAd
      have hG5 := hk5.blk hGd
      have hR5 := hk5.blk hRd
      have own5 := ownsRow_kept' ownd hk5
      have b0 := hA5.cell 0
      have b1 := hA5.cell 1
      have h1 := hG5.cell 1
      simp only [List.getElem?_cons_zero, List.getElem?_cons_succ] at b0 b1 h1
      refine hK.out _ _ (fun _ => ⟨h1, b0, b1⟩) ?_
      clear hK K
      try simp only [Act.put, List.setIfInBounds_toArray, List.set_cons_zero, List.set_cons_succ]
      refine wpAnyZ_one (i := 5) (by kernel_rfl) rfl (fun K hK => ?_)
      go_simp
      have hA6 := hA5.alloc (.cells #[.int .i64 lk] 3)
      have hG6 := hG5.alloc (.cells #[.int .i64 lk] 3)
      have d0 := hA6.cell 0
      have d1 := hA6.cell 1
      have e1 := hG6.cell 1
      simp only [List.getElem?_cons_zero, List.getElem?_cons_succ] at d0 d1 e1
      refine hK.out _ _ (fun _ => ⟨e1, d0, d1⟩) ?_
      clear hK K
      try simp only [Act.put, List.setIfInBounds_toArray, List.set_cons_zero, List.set_cons_succ]
      refine wpAnyZ_one (i := 6) (by kernel_rfl) rfl (fun K hK => ?_)
      have z5 := hk5.size
      simp at z5
      have z6 : gk < w5.heap.size := Nat.lt_of_lt_of_le lgk z5
      refine step_append_lies _ (by rfl) _ _ _ (by rfl) (gk + 1) 3 i0 _ 1 8 Try.underlying53 hi hz0 hz1 hz2 rfl (by omega) (.slice al q cl) q (((linksL c).take q).map (Value.int .i64)) (by rfl) (own5.alloc _)
        ⟨w5.heap.size, 0, none⟩ 1 1 [.int .i64 lk] (by rfl) (by rfl) (World.news_of_block (cs := #[.int .i64 lk]) (t := 3) (fr := (0, 0)) (heap_alloc_new w5 _)) (by simp [Value.oneCell'])
        (by omega) (by unfold maxLen; omega) (by omega) (by simp; omega) (w5.heap.size + 1) (by simp) ?_
      intro gt gcap w6 own6 hgrow hat hlt6
      have hro : ∀ g, Value.ownBlock (.slice al q cl) = some g → gk + 1 ≤ g := fun g e => (ownsRow_base own5 g e).1
      have hG7 := Blk.grown hG6 hgrow (fun e => by have := hro _ e; omega)
      have hA7 := Blk.grown hA6 hgrow (fun e => by have := hro _ e; omega)
      have hR7 := Blk.grown (hR5.alloc _) hgrow (fun e => by have := hro _ e; omega)
      have k0 := hA7.cell 0
      have k1 := hA7.cell 1
      have j1 := hG7.cell 1
      have f1 := hG7.free 1
      simp only [List.getElem?_cons_zero, List.getElem?_cons_succ] at k0 k1 j1
      refine hK.out _ _ (fun _ => ⟨j1, k0, k1⟩) ?_
      clear hK K
      try simp only [Act.put, List.setIfInBounds_toArray]
      refine wpAnyZ_one (i := 7) (by kernel_rfl) rfl (fun K hK => ?_)
      go_simp
      refine hK.out _ _ (fun _ => ⟨j1, k0, k1⟩) ?_
      clear hK K
      try simp only [Act.put, List.setIfInBounds_toArray, List.set_cons_zero, List.set_cons_succ]
      refine wpAnyZ_one (i := 8) (by kernel_rfl) rfl (fun K hK => ?_)
      go_simp
      refine hK.out _ _ (fun h => absurd rfl h) ?_
      refine wpAnyZ_done (by kernel_rfl) ?_ _
      clear hK K
      have hG8 : Blk (w6.setCell ⟨gk, 1, none⟩ (.slice (some ⟨gt, 0, none⟩) (q + 1) gcap)) gk 55 [.int .i64 hd, .slice (some ⟨gt, 0, none⟩) (q + 1) gcap] := hG7.set' 1 _ rfl
      have own8 := ownsRow_setCell_below own6 (a := ⟨gk, 1, none⟩) (show gk < gk + 1 by omega) (.slice (some ⟨gt, 0, none⟩) (q + 1) gcap)
      have hb8 : Below gk w4 (w6.setCell ⟨gk, 1, none⟩ (.slice (some ⟨gt, 0, none⟩) (q + 1) gcap)) := by
        have h1 : Below gk w4 w5 := hbw.drew.trans (hk5.mono (by simp; omega))
        have h2 : Below gk w4 w6 := (h1.alloc (by omega) _).grown hgrow (by simp; omega) (fun g e => by have := hro g e; omega)
        exact Below.setCell h2 (p := ⟨gk, 1, none⟩) (Nat.le_refl _) _
      generalize w6.setCell ⟨gk, 1, none⟩ (.slice (some ⟨gt, 0, none⟩) (q + 1) gcap) = w7 at *
      clear a0 a1 g1 b0 b1 h1 d0 d1 e1 k0 k1 j1 f1 a1r
      go_wp2_with fail
      go_roundw
      case rel => exact ⟨q + 1, _, by have := HPP.out; omega, by have := HPP.out; congr 1; push_cast; omega, hG8, by rw [HSS.out]; exact own8, hb8⟩
      case measure => have := HPP.out; simp [intOf]; omega
    · have hqm : (q : Int) = manyI c := by omega
      have hrow := Row.ofOwn own
      rw [List.take_of_length_le (by rw [linksL_len]; omega)] at hrow
      have a1 := hAr.cell 1
      have g0 := hGr.cell 0
      have g1 := hGr.cell 1
      have r0 := hRr.cell 0
      have r1 := hRr.cell 1
      have fr0 := hRr.free 0
      have fr1 := hRr.free 1
      simp only [List.getElem?_cons_zero, List.getElem?_cons_succ] at a1 g0 g1 r0 r1
      have HQ : Hid ((q : Int) = manyI c) := hqm
      clear hqm
      go_wp2_with fail
      have hG2 : Blk ((wr.setCell ⟨w.heap.size + 1, 0, none⟩ (.int .i64 hd)).setCell ⟨w.heap.size + 1, 1, none⟩ (.slice al q cl)) (w.heap.size + 1) 55 [.int .i64 hd, .slice al q cl] := (hRr.set' 0 _ rfl).set' 1 _ rfl
      have hc : Chg (fun k => k = w.heap.size + 1) wr ((wr.setCell ⟨w.heap.size + 1, 0, none⟩ (.int .i64 hd)).setCell ⟨w.heap.size + 1, 1, none⟩ (.slice al q cl)) := ((Chg.refl (fun k => k = w.heap.size + 1) wr).setCell ⟨w.heap.size + 1, 0, none⟩ _ (fun _ => rfl)).setCell ⟨w.heap.size + 1, 1, none⟩ _ (fun _ => rfl)
      have hK9 : Kept w ((wr.setCell ⟨w.heap.size + 1, 0, none⟩ (.int .i64 hd)).setCell ⟨w.heap.size + 1, 1, none⟩ (.slice al q cl)) := Below.setCell (Below.setCell hKr (p := ⟨w.heap.size + 1, 0, none⟩) (by simp) _) (p := ⟨w.heap.size + 1, 1, none⟩) (by simp) _
      have own9 := ownsRow_chg own hc (fun g e => by have := (ownsRow_base own g e).1; omega)
      generalize (wr.setCell ⟨w.heap.size + 1, 0, none⟩ (.int .i64 hd)).setCell ⟨w.heap.size + 1, 1, none⟩ (.slice al q cl) = w9 at *
      have s0 := hG2.cell 0
      have s1 := hG2.cell 1
      simp only [List.getElem?_cons_zero, List.getElem?_cons_succ] at s0 s1
      have hrow9 := Row.ofOwn own9
      rw [List.take_of_length_le (by have := HQ.out; rw [linksL_len]; omega)] at hrow9
      exact bodyPost_ret (v := .agg #[.int .i64 hd, .slice al q cl]) (by simp [results, Try.results56, go_sem, s0, s1]) rfl ⟨_, rfl, hrow9, hK9, fun g e => by have := (ownsRow_base own9 g e).1; omega⟩

end Go.Proofs.Ytcejleaedlflaaa
