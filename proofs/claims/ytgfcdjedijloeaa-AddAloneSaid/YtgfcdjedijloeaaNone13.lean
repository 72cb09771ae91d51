/- For a marker that there isn't: walked. -/
import Derived.Test.YtgfcdjedijloeaaAw13
import Derived.Test.YtgfcdjedijloeaaSm13
namespace Go.Proofs.Ytgfcdjedijloeaa
open Go.RowKit

theorem newAM_none {c : Cfg} {i : Int} (x : Int) (h : ¬ (0 ≤ i ∧ i < c.mks)) : (newAM c i x).pc = .done := by unfold newAM; rw [if_neg h]

set_option maxRecDepth 8000 in
set_option maxHeartbeats 3200000 in
theorem none13_any (c : Cfg) (i x : Int) (w : World) (_hi : -9223372036854775808 ≤ i ∧ i ≤ 9223372036854775807) (hx : U x) :
    Calls Try.prog 10 #[.agg #[.int .i64 c.c0, .int .i64 c.c1, .int .i64 c.c2, .int .i64 c.c3, .int .i64 c.c4, .int .i64 c.mks, .int .i64 c.mus, .int .i64 c.dq, .int .i64 c.ch, .int .i64 c.bu, .int .i64 c.ro, .int .i64 c.sw], .int .i64 i, .int .u64 x] w fun e w' => e = .returned (.bool true) ∧ Kept w w' := by
  have hb := Blk.new w 24 [.int .i64 c.c0, .int .i64 c.c1, .int .i64 c.c2, .int .i64 c.c3, .int .i64 c.c4, .int .i64 c.mks, .int .i64 c.mus, .int .i64 c.dq, .int .i64 c.ch, .int .i64 c.bu, .int .i64 c.ro, .int .i64 c.sw]
  have hk0 : Kept w (w.alloc (.cells ([.int .i64 c.c0, .int .i64 c.c1, .int .i64 c.c2, .int .i64 c.c3, .int .i64 c.c4, .int .i64 c.mks, .int .i64 c.mus, .int .i64 c.dq, .int .i64 c.ch, .int .i64 c.bu, .int .i64 c.ro, .int .i64 c.sw] : List Value).toArray 24)) := (Below.refl _ _).alloc (Nat.le_refl _) _
  go_enter Try.func10, Try.ntmps10
  go_wp2_with fail
  generalize w.alloc (.cells ([.int .i64 c.c0, .int .i64 c.c1, .int .i64 c.c2, .int .i64 c.c3, .int .i64 c.c4, .int .i64 c.mks, .int .i64 c.mus, .int .i64 c.dq, .int .i64 c.ch, .int .i64 c.bu, .int .i64 c.ro, .int .i64 c.sw] : List Value).toArray 24) = w0 at *
  refine (awake13_any w0).mono ?_; rintro e w1 ⟨rfl, hk1⟩
  have hb1 := hk1.blk hb
  have hK1 : Kept w w1 := hk0.trans' hk1
  clear hb hk0 hk1 
  have c0 := hb1.cell 0
  have c1 := hb1.cell 1
  have c2 := hb1.cell 2
  have c3 := hb1.cell 3
  have c4 := hb1.cell 4
  have c5 := hb1.cell 5
  have c6 := hb1.cell 6
  have c7 := hb1.cell 7
  have c8 := hb1.cell 8
  have c9 := hb1.cell 9
  have c10 := hb1.cell 10
  have c11 := hb1.cell 11
  simp only [List.getElem?_cons_zero, List.getElem?_cons_succ] at c0 c1 c2 c3 c4 c5 c6 c7 c8 c9 c10 c11
  go_wp2_with fail
  refine (small13_any c w1).mono ?_; rintro e w2 ⟨⟨v, rfl, hv⟩, hk2⟩
  have HV : Hid (v = true → Good c ∧ Small c) := hv
  have hb2 := hk2.blk hb1
  have hK2 : Kept w w2 := hK1.trans' hk2
  clear hv hk2 hb1 hK1 c0 c1 c2 c3 c4 c5 c6 c7 c8 c9 c10 c11 
  cases v
  · go_wp2_with fail
    go_ret
    exact ⟨rfl, hK2⟩
  have hgs := HV.out rfl
  have Hg : Hid (Good c ∧ Small c) := hgs
  clear HV hgs
  have c0 := hb2.cell 0
  have c1 := hb2.cell 1
  have c2 := hb2.cell 2
  have c3 := hb2.cell 3
  have c4 := hb2.cell 4
  have c5 := hb2.cell 5
  have c6 := hb2.cell 6
  have c7 := hb2.cell 7
  have c8 := hb2.cell 8
  have c9 := hb2.cell 9
  have c10 := hb2.cell 10
  have c11 := hb2.cell 11
  simp only [List.getElem?_cons_zero, List.getElem?_cons_succ] at c0 c1 c2 c3 c4 c5 c6 c7 c8 c9 c10 c11
  go_wp2_with fail
  refine (new_good c w2 Hg.out.1).mono ?_; rintro e w3 ⟨bm, rfl, hm3, hk3⟩
  have hK3 : Kept w w3 := hK2.trans' hk3
  have hb3 := hk3.blk hb2
  clear c0 c1 c2 c3 c4 c5 c6 c7 c8 c9 c10 c11 hb2 hk3 hK2 
  go_wp2_with fail
  refine (first_any w3 hm3 Hg.out.1 (Nat.le_refl _)).mono ?_; rintro e w4 ⟨v4, rfl, hr4, hk4⟩
  obtain ⟨fl0, fl1, fall⟩ := first_facts Hg.out.1
  go_wp2_with fail
  refine (new_any w4 hr4 fl0 fl1 fall).mono ?_; rintro e w5 ⟨bs, bl, rfl, hs5, hbs5, hbl5, hk5⟩
  have hm5 := (hm3.kept hk4 (Nat.le_refl _)).kept hk5 hk4.size
  have hb5 := hk5.blk (hk4.blk hb3)
  have hK5 : Kept w w5 := (hK3.trans' hk4).trans' hk5
  have hB5 : w3.heap.size ≤ w5.heap.size := Nat.le_trans hk4.size hk5.size
  have hBs5 : w3.heap.size ≤ bs := Nat.le_trans hk4.size hbs5
  have hBl5 : w3.heap.size ≤ bl := Nat.le_trans hk4.size hbl5
  have hW3 : w.heap.size < w3.heap.size := hb3.lt
  clear hm3 hb3 hr4 hk4 hk5 hK3 hbs5 hbl5 fl0 fl1 fall 
  have c5 := hb5.cell 5
  simp only [List.getElem?_cons_zero, List.getElem?_cons_succ] at c5
  have d1 : ¬ (0 ≤ min i (-1) ∧ min i (-1) < c.mks) := by omega
  have d2 : ¬ (0 ≤ max i c.mks ∧ max i c.mks < c.mks) := by omega
  have D1 := newAM_none x d1
  have D2 := newAM_none x d2
  clear d1 d2
  go_wp2_with fail
  refine (addNew_any (bs := bs) (bl := bl) (min i (-1)) x w5 hm5 hB5 Hg.out.1 hx hs5.lt.1 hs5.lt.2).mono ?_; rintro e w6 ⟨a6, rfl, ha6, hk6⟩
  have hs6 := hs5.kept hk6
  have hm6 := hm5.kept hk6 hB5
  have hb6 := hk6.blk hb5
  have hK6 : Kept w w6 := hK5.trans' hk6
  have z6 : w5.heap.size ≤ w6.heap.size := hk6.size
  clear hs5 hm5 hb5 hK5 hk6 c5
  have c5 := hb6.cell 5
  simp only [List.getElem?_cons_zero, List.getElem?_cons_succ] at c5
  go_wp2_with fail
  refine (addNew_any (bs := bs) (bl := bl) (max i c.mks) x w6 hm6 (by omega) Hg.out.1 hx hs6.lt.1 hs6.lt.2).mono ?_; rintro e w7 ⟨a7, rfl, ha7, hk7⟩
  have hs7 := hs6.kept hk7
  have hm7 := hm6.kept hk7 (by omega)
  have ha6' := ha6.chg (Chg.ofBelow (S := fun _ => False) hk7) (fun _ _ => id)
  have hK7 : Kept w w7 := hK6.trans' hk7
  have z7 : w6.heap.size ≤ w7.heap.size := hk7.size
  clear hs6 hm6 hb6 hK6 hk7 c5 ha6
  have S1 := astep_any w7 Hg.out.1 ha6' hs7 hm7 (by omega) (NewB.ge hB5) hBs5 hBl5
  rw [amStep_done D1] at S1
  rw [D1] at S1
  go_wp2_with fail
  refine S1.mono ?_; rintro e w8 ⟨rfl, ha8, hs8, hc8⟩
  have hbw8 := hc8.ownBelow (B := w3.heap.size) (by omega) (NewB.ge hB5) hBs5 hBl5
  have hm8 := hm7.below hbw8 (Nat.le_refl _)
  have hK8 : Kept w w8 := hK7.trans (hbw8.mono (Nat.le_of_lt hW3))
  have z8 : w7.heap.size ≤ w8.heap.size := hc8.size
  have ha7' := ha7.chg hc8 (fun q hq => by
    have h1 := hq.1
    have h2 := (ha7.own q hq).2
    rintro (e | e | e)
    · have := e.2; omega
    · exact h2.1 e
    · exact h2.2 e)
  have S2 := astep_any w8 Hg.out.1 ha7' hs8 hm8 (by omega) (NewB.ge (by omega)) hBs5 hBl5
  rw [amStep_done D2] at S2
  rw [D2] at S2
  go_wp2_with fail
  refine S2.mono ?_; rintro e w9 ⟨rfl, ha9, hs9, hc9⟩
  have hbw9 := hc9.ownBelow (B := w3.heap.size) (by omega) (NewB.ge (by omega)) hBs5 hBl5
  have hK9 : Kept w w9 := hK8.trans (hbw9.mono (Nat.le_of_lt hW3))
  have z9 : w8.heap.size ≤ w9.heap.size := hc9.size
  have ha8' := ha8.chg hc9 (fun q hq => by
    have h2 := (ha8.own q hq).2
    rintro (e | e | e)
    · rcases hq with hq | hq
      · have := hq.2; have := e.1; omega
      · have := hq.1; have := e.2; omega
    · exact h2.1 e
    · exact h2.2 e)
  simp only [cntIf, APc.fin, if_true] at hs9
  have P1 := aspilled_any w9 ha8'
  have P2 := aspilled_any w9 ha9
  have hn : (newAM c (min i (-1)) x).spilled = false ∧ (newAM c (max i c.mks) x).spilled = false := ⟨rfl, rfl⟩
  rw [hn.1] at P1
  rw [hn.2] at P2
  clear S1 S2 ha6' ha7 ha7' ha8 ha8' ha9 hs7 hs8 hm7 hm8 D1 D2 hn
  go_wp2_with fail
  refine (mCount_any w9 hs9).mono ?_; rintro e wx ⟨rfl, rfl⟩
  go_wp2_with fail
  refine P1.mono ?_; rintro e wx ⟨rfl, rfl⟩
  go_wp2_with fail
  refine P2.mono ?_; rintro e wx ⟨rfl, rfl⟩
  go_wp2_with fail
  go_ret
  exact ⟨rfl, hK9⟩

end Go.Proofs.Ytgfcdjedijloeaa
