/- Without tasks, without such a packet, or without a map: walked. -/
import Derived.Test.YtgfcdjedijloeaaAw11
import Derived.Test.YtgfcdjedijloeaaSm11
import Derived.Test.YtgfcdjedijloeaaWords
namespace Go.Proofs.Ytgfcdjedijloeaa
open Go.RowKit

theorem putNil_any (l : Value) (ts : List Int) (w : World) (hl : Words w l ts) (hle : ts.length ≤ 1000) :
    Calls Try.prog 18 #[.pointer none, l] w fun e w' => e = .returned (.pointer (some ⟨w.heap.size, 0, none⟩)) ∧ PkNone w' w.heap.size ∧ Kept w w' := by
  obtain ⟨h0, ⟨rfl, rfl⟩ | ⟨ad, cap, rfl, h2, h3, h4⟩⟩ := hl
  · exact putEmpty _ (.inl rfl) none 0 (fun _ => rfl) w
  · by_cases hz : ts.length = 0
    · rw [hz]
      exact putEmpty _ (.inl rfl) (some ad) cap (fun h => by cases h) w
    · refine putNil w h2 h4 ?_ (by omega) hle
      have := h4 0 (.int .u64 (ts[0]'(by omega))) (by simp [List.getElem?_eq_getElem (show 0 < ts.length by omega)])
      have := lt_of_cell this
      rwa [add_block] at this

theorem words_len {w : World} {l : Value} {ts : List Int} (h : Words w l ts) (W : World) : (Builtin.len_ #[25] 3 #[l]).run Try.prog W = .ok (.int .i64 ts.length) W := by
  obtain ⟨h0, ⟨rfl, rfl⟩ | ⟨ad, cap, rfl, h2, h3, h4⟩⟩ := h <;> kernel_rfl

set_option maxRecDepth 8000 in
set_option maxHeartbeats 3200000 in
theorem none11_any (c : Cfg) (p : Int) (l : Value) (ts : List Int) (w : World) (hl : Words w l ts) :
    Calls Try.prog 7 #[.agg #[.int .i64 c.c0, .int .i64 c.c1, .int .i64 c.c2, .int .i64 c.c3, .int .i64 c.c4, .int .i64 c.mks, .int .i64 c.mus, .int .i64 c.dq, .int .i64 c.ch, .int .i64 c.bu, .int .i64 c.ro, .int .i64 c.sw], .int .i64 p, l] w fun e w' => e = .returned (.bool true) ∧ Kept w w' := by
  have hb := Blk.new w 24 [.int .i64 c.c0, .int .i64 c.c1, .int .i64 c.c2, .int .i64 c.c3, .int .i64 c.c4, .int .i64 c.mks, .int .i64 c.mus, .int .i64 c.dq, .int .i64 c.ch, .int .i64 c.bu, .int .i64 c.ro, .int .i64 c.sw]
  have hk0 : Kept w (w.alloc (.cells ([.int .i64 c.c0, .int .i64 c.c1, .int .i64 c.c2, .int .i64 c.c3, .int .i64 c.c4, .int .i64 c.mks, .int .i64 c.mus, .int .i64 c.dq, .int .i64 c.ch, .int .i64 c.bu, .int .i64 c.ro, .int .i64 c.sw] : List Value).toArray 24)) := (Below.refl _ _).alloc (Nat.le_refl _) _
  go_enter Try.func7, Try.ntmps7
  go_wp2_with fail
  generalize w.alloc (.cells ([.int .i64 c.c0, .int .i64 c.c1, .int .i64 c.c2, .int .i64 c.c3, .int .i64 c.c4, .int .i64 c.mks, .int .i64 c.mus, .int .i64 c.dq, .int .i64 c.ch, .int .i64 c.bu, .int .i64 c.ro, .int .i64 c.sw] : List Value).toArray 24) = w0 at *
  refine (awake11_any w0).mono ?_; rintro e w1 ⟨rfl, hk1⟩
  have hb1 := hk1.blk hb
  have hK1 : Kept w w1 := hk0.trans' hk1
  have hl1 := hl.kept hK1
  clear hb hk0 hk1 hl
  have c0 := hb1.cell 0
  have c1 := hb1.cell 1
  have c2 := hb1.cell 2
  have c3 := hb1.cell 3
  have c4 := hb1.cell 4
  have c5 := hb1.cell 5
  have c6 := hb1.cell 6
  have c7 := hb1.cell 7
  have c8 := hb1.cell 8
  have c9 := hb1.cell 9
  have c10 := hb1.cell 10
  have c11 := hb1.cell 11
  simp only [List.getElem?_cons_zero, List.getElem?_cons_succ] at c0 c1 c2 c3 c4 c5 c6 c7 c8 c9 c10 c11
  go_wp2_with fail
  refine (small11_any c w1).mono ?_; rintro e w2 ⟨⟨v, rfl, hv⟩, hk2⟩
  have HV : Hid (v = true → Good c ∧ Small c) := hv
  have hlen := words_len hl1
  have hl2 := hl1.kept hk2
  have hb2 := hk2.blk hb1
  have hK2 : Kept w w2 := hK1.trans' hk2
  clear hv hk2 hb1 hK1 hl1 c0 c1 c2 c3 c4 c5 c6 c7 c8 c9 c10 c11
  cases v
  · go_wp2_with fail
    go_ret
    exact ⟨rfl, hK2⟩
  have hg := (HV.out rfl).1
  have hmb := manyI_bound hg
  clear HV
  by_cases h60 : (ts.length : Int) > 60
  · go_wp2_with fail
    go_ret
    exact ⟨rfl, hK2⟩
  have c0 := hb2.cell 0
  have c1 := hb2.cell 1
  have c2 := hb2.cell 2
  have c3 := hb2.cell 3
  have c4 := hb2.cell 4
  have c5 := hb2.cell 5
  have c6 := hb2.cell 6
  have c7 := hb2.cell 7
  have c8 := hb2.cell 8
  have c9 := hb2.cell 9
  have c10 := hb2.cell 10
  have c11 := hb2.cell 11
  simp only [List.getElem?_cons_zero, List.getElem?_cons_succ] at c0 c1 c2 c3 c4 c5 c6 c7 c8 c9 c10 c11
  have Hg : Hid (Good c) := hg
  clear hg
  go_wp2_with fail
  have hg := Hg.out
  refine (new_good c w2 hg).mono ?_; rintro e w3 ⟨bm, rfl, hm3, hk3⟩
  have hK3 : Kept w w3 := hK2.trans' hk3
  have hl3 := hl2.kept hk3
  clear c0 c1 c2 c3 c4 c5 c6 c7 c8 c9 c10 c11 hb2 hk3 hK2 hl2 hg
  go_wp2_with fail
  refine (first_any w3 hm3 Hg.out (Nat.le_refl _)).mono ?_; rintro e w4 ⟨v4, rfl, hr4, hk4⟩
  obtain ⟨fl0, fl1, fall⟩ := first_facts Hg.out
  go_wp2_with fail
  refine (new_any w4 hr4 fl0 fl1 fall).mono ?_; rintro e w5 ⟨bs, bl, rfl, hs5, _, _, hk5⟩
  have hm5 := (hm3.kept hk4 (Nat.le_refl _)).kept hk5 hk4.size
  have hK5 : Kept w w5 := (hK3.trans' hk4).trans' hk5
  have hl5 := (hl3.kept hk4).kept hk5
  have hB : w3.heap.size ≤ w5.heap.size := Nat.le_trans hk4.size hk5.size
  clear hm3 hr4 hk4 hk5 hK3 hl3 fl0 fl1 fall
  go_wp2_with fail
  refine (putEmpty (.pointer (some ⟨bm, 0, none⟩)) (.inr ⟨bm, rfl⟩) none 0 (fun _ => rfl) w5).mono ?_; rintro e w6 ⟨rfl, a6, hk6⟩
  have hl6 := hl5.kept hk6
  have hm6 := hm5.kept hk6 hB
  have hs6 := hs5.kept hk6
  have hK6 : Kept w w6 := hK5.trans' hk6
  have hB6 : w3.heap.size ≤ w6.heap.size := Nat.le_trans hB hk6.size
  clear hl5 hm5 hs5 hK5 hk6 hB
  go_wp2_with fail
  refine (putNil_any l ts w6 hl6 (by omega)).mono ?_; rintro e w7 ⟨rfl, b7, hk7⟩
  have a7 := a6.kept hk7
  have hm7 := hm6.kept hk7 hB6
  have hs7 := hs6.kept hk7
  have hK7 : Kept w w7 := hK6.trans' hk7
  have hB7 : w3.heap.size ≤ w7.heap.size := Nat.le_trans hB6 hk7.size
  clear hl6 hm6 hs6 hK6 hk7 a6 hB6
  go_wp2_with fail
  refine (takeNil w7).mono ?_; rintro e w8 ⟨rfl, d8, hk8⟩
  have a8 := a7.kept hk8
  have b8 := b7.kept hk8
  have hm8 := hm7.kept hk8 hB7
  have hs8 := hs7.kept hk8
  have hK8 : Kept w w8 := hK7.trans' hk8
  have hB8 : w3.heap.size ≤ w8.heap.size := Nat.le_trans hB7 hk8.size
  clear hm7 hs7 hK7 hk8 a7 b7 hB7
  go_wp2_with fail
  refine (backNil 1 w8).mono ?_; rintro e w9 ⟨rfl, f9, hk9⟩
  have a9 := a8.kept hk9
  have b9 := b8.kept hk9
  have d9 := d8.kept hk9
  have hm9 := hm8.kept hk9 hB8
  have hs9 := hs8.kept hk9
  have hK9 : Kept w w9 := hK8.trans' hk9
  have hB9 : w3.heap.size ≤ w9.heap.size := Nat.le_trans hB8 hk9.size
  clear hm8 hs8 hK8 hk9 a8 b8 d8 hB8
  go_wp2_with fail
  refine (back_no (min p 0) w9 Hg.out hm9 hB9 (by omega)).mono ?_; rintro e w10 ⟨rfl, g10, hk10⟩
  have a10 := a9.kept hk10
  have b10 := b9.kept hk10
  have d10 := d9.kept hk10
  have f10 := f9.kept hk10
  have hm10 := hm9.kept hk10 hB9
  have hs10 := hs9.kept hk10
  have hK10 : Kept w w10 := hK9.trans' hk10
  have hB10 : w3.heap.size ≤ w10.heap.size := Nat.le_trans hB9 hk10.size
  clear hm9 hs9 hK9 hk10 a9 b9 d9 f9 hB9
  go_wp2_with fail
  refine (mPackets_any w10 hm10).mono ?_; rintro e w11 ⟨rfl, rfl⟩
  have x1 : IntKind.i64.wrap (manyI c + 1) = manyI c + 1 := IntWalk.i64_in _ (by omega)
  go_wp2_with fail
  refine (back_no (max p (manyI c + 1)) w10 Hg.out hm10 hB10 (by omega)).mono ?_; rintro e w11 ⟨rfl, h11, hk11⟩
  have a11 := a10.kept hk11
  have b11 := b10.kept hk11
  have d11 := d10.kept hk11
  have f11 := f10.kept hk11
  have g11 := g10.kept hk11
  have hs11 := hs10.kept hk11
  have hK11 : Kept w w11 := hK10.trans' hk11
  clear hm10 hs10 hK10 hk11 a10 b10 d10 f10 g10 hB10
  go_wp2_with fail
  refine (pstepNone w11 _ a11).mono ?_; rintro e wx ⟨rfl, rfl⟩
  go_wp2_with fail
  refine (pstepNone w11 _ b11).mono ?_; rintro e wx ⟨rfl, rfl⟩
  go_wp2_with fail
  refine (pstepNone w11 _ d11).mono ?_; rintro e wx ⟨rfl, rfl⟩
  go_wp2_with fail
  refine (pstepNone w11 _ f11).mono ?_; rintro e wx ⟨rfl, rfl⟩
  go_wp2_with fail
  refine (pstepNone w11 _ g11).mono ?_; rintro e wx ⟨rfl, rfl⟩
  go_wp2_with fail
  refine (pstepNone w11 _ h11).mono ?_; rintro e wx ⟨rfl, rfl⟩
  go_wp2_with fail
  refine (pstepNil w11 _).mono ?_; rintro e wx ⟨rfl, rfl⟩
  go_wp2_with fail
  refine (ppackNil w11).mono ?_; rintro e wx ⟨rfl, rfl⟩
  go_wp2_with fail
  refine (mCount_any w11 hs11).mono ?_; rintro e wx ⟨rfl, rfl⟩
  go_wp2_with fail
  refine (ppackNone w11 a11).mono ?_; rintro e wx ⟨rfl, rfl⟩
  go_wp2_with fail
  refine (ppackNone w11 b11).mono ?_; rintro e wx ⟨rfl, rfl⟩
  go_wp2_with fail
  refine (ppackNone w11 d11).mono ?_; rintro e wx ⟨rfl, rfl⟩
  go_wp2_with fail
  refine (ppackNone w11 f11).mono ?_; rintro e wx ⟨rfl, rfl⟩
  go_wp2_with fail
  refine (ppackNone w11 g11).mono ?_; rintro e wx ⟨rfl, rfl⟩
  go_wp2_with fail
  refine (ppackNone w11 h11).mono ?_; rintro e wx ⟨rfl, rfl⟩
  go_wp2_with fail
  go_ret
  exact ⟨rfl, hK11⟩

end Go.Proofs.Ytgfcdjedijloeaa
