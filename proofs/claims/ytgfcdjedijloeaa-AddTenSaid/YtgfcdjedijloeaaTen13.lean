/- Alone, a task is put somewhere within four steps, or, where the deque is full, within ten: walked. -/
import Derived.Test.YtgfcdjedijloeaaAdSeq
import Derived.Test.YtgfcdjedijloeaaNone13
namespace Go.Proofs.Ytgfcdjedijloeaa
open Go.RowKit

/-- Numbers from 0 on. -/
def zeroTo (n : Nat) : List Int := (List.range n).map fun (j : Nat) => (j : Int)

theorem zeroTo_len (n : Nat) : (zeroTo n).length = n := by simp [zeroTo]

theorem zeroTo_succ (n : Nat) : zeroTo (n + 1) = zeroTo n ++ [(n : Int)] := by simp [zeroTo, List.range_succ]

theorem below_blk {B : Nat} {w w' : World} (h : Below B w w') {b t l} (hb : Blk w b t l) (hl : b < B) : Blk w' b t l := by
  unfold Blk; rw [h.block b hl]; exact hb

/-- A task that is put somewhere, whole: nineteen steps, or what is enough. -/
theorem add_whole {c : Cfg} {k : Int} {mem ts P S : List Int} {x : Int} (hg : Good c) (hk : 0 ≤ k ∧ k < c.mks) (h : AInv c k mem ts P S) (hs : (ts.length : Int) + 1 ≤ c.dq + manyI c) :
    (∃ P' S', AInv c k (amRun c k 19 (mem, newAM c k x)).1 (ts ++ [x]) P' S') ∧ (amRun c k 19 (mem, newAM c k x)).2.spilled = decide ((ts.length : Int) ≥ c.dq) ∧
      ∀ K : Nat, 1 ≤ K → (∀ q, 1 ≤ q → q < K → (amRun c k q (mem, newAM c k x)).2.pc.fin = false) → (K < 20 → (amRun c k K (mem, newAM c k x)).2.pc.fin = true) → K = if (ts.length : Int) ≥ c.dq then 10 else 4 := by
  by_cases hr : (ts.length : Int) < c.dq
  · obtain ⟨h1, h2, h3, h4⟩ := add_room (x := x) hg hk h hr
    rw [show amRun c k 19 (mem, newAM c k x) = amRun c k (3 + 1) (mem, newAM c k x) from amRun_upto rfl (afin_iff.1 h2) (by omega)]
    refine ⟨⟨P, S, h4⟩, by rw [h3, decide_eq_false (by omega)], fun K k1 k3 k4 => ?_⟩
    rw [if_neg (by omega)]
    exact am_count ⟨h1, h2⟩ (by omega) k1 k3 k4
  · obtain ⟨h1, h2, h3, h4⟩ := add_full (x := x) hg hk h hr hs
    rw [show amRun c k 19 (mem, newAM c k x) = amRun c k (9 + 1) (mem, newAM c k x) from amRun_upto rfl (afin_iff.1 h2) (by omega)]
    refine ⟨h4, by rw [h3, decide_eq_true (by omega)], fun K k1 k3 k4 => ?_⟩
    rw [if_pos (by omega)]
    exact am_count ⟨h1, h2⟩ (by omega) k1 k3 k4

theorem AmAt.drew {w : World} {a bm bs bl : Nat} {c : Cfg} {i : Int} {s : AM} {O : Nat → Prop} (h : AmAt w a bm bs bl c i s O) : AmAt w.drew a bm bs bl c i s O := h.chg (S := fun _ => False) ((Chg.refl _ _).drew) (fun _ _ => id)

theorem aspilled_is {a bm bs bl : Nat} {c : Cfg} {i : Int} {s : AM} {O : Nat → Prop} {v : Bool} (w : World) (h : AmAt w a bm bs bl c i s O) (hv : s.spilled = v) :
    Calls Try.prog 48 #[.pointer (some ⟨a, 0, none⟩)] w fun r w' => r = .returned (.bool v) ∧ w = w' := hv ▸ aspilled_any w h

theorem wrap_small {x : Int} (h0 : 0 ≤ x) (h1 : x ≤ 100000) : IntKind.i64.wrap x = x := IntWalk.i64_in _ (by omega)

set_option maxRecDepth 8000 in
set_option maxHeartbeats 3200000 in
theorem ten13_any (c : Cfg) (i before x : Int) (w : World) (hi : 0 ≤ i ∧ i ≤ 255) (hbf : 0 ≤ before ∧ before ≤ 255) (hx : U x) :
    Calls Try.prog 9 #[.agg #[.int .i64 c.c0, .int .i64 c.c1, .int .i64 c.c2, .int .i64 c.c3, .int .i64 c.c4, .int .i64 c.mks, .int .i64 c.mus, .int .i64 c.dq, .int .i64 c.ch, .int .i64 c.bu, .int .i64 c.ro, .int .i64 c.sw], .int .u8 i, .int .u8 before, .int .u64 x] w fun e w' => e = .returned (.bool true) ∧ Kept w w' := by
  have hb := Blk.new w 24 [.int .i64 c.c0, .int .i64 c.c1, .int .i64 c.c2, .int .i64 c.c3, .int .i64 c.c4, .int .i64 c.mks, .int .i64 c.mus, .int .i64 c.dq, .int .i64 c.ch, .int .i64 c.bu, .int .i64 c.ro, .int .i64 c.sw]
  have hk0 : Kept w (w.alloc (.cells ([.int .i64 c.c0, .int .i64 c.c1, .int .i64 c.c2, .int .i64 c.c3, .int .i64 c.c4, .int .i64 c.mks, .int .i64 c.mus, .int .i64 c.dq, .int .i64 c.ch, .int .i64 c.bu, .int .i64 c.ro, .int .i64 c.sw] : List Value).toArray 24)) := (Below.refl _ _).alloc (Nat.le_refl _) _
  go_enter Try.func9, Try.ntmps9
  go_wp2_with fail
  generalize w.alloc (.cells ([.int .i64 c.c0, .int .i64 c.c1, .int .i64 c.c2, .int .i64 c.c3, .int .i64 c.c4, .int .i64 c.mks, .int .i64 c.mus, .int .i64 c.dq, .int .i64 c.ch, .int .i64 c.bu, .int .i64 c.ro, .int .i64 c.sw] : List Value).toArray 24) = w0 at *
  refine (awake13_any w0).mono ?_; rintro e w1 ⟨rfl, hk1⟩
  have hb1 := hk1.blk hb
  have hK1 : Kept w w1 := hk0.trans' hk1
  clear hb hk0 hk1 
  have c0 := hb1.cell 0
  have c1 := hb1.cell 1
  have c2 := hb1.cell 2
  have c3 := hb1.cell 3
  have c4 := hb1.cell 4
  have c5 := hb1.cell 5
  have c6 := hb1.cell 6
  have c7 := hb1.cell 7
  have c8 := hb1.cell 8
  have c9 := hb1.cell 9
  have c10 := hb1.cell 10
  have c11 := hb1.cell 11
  simp only [List.getElem?_cons_zero, List.getElem?_cons_succ] at c0 c1 c2 c3 c4 c5 c6 c7 c8 c9 c10 c11
  go_wp2_with fail
  refine (small13_any c w1).mono ?_; rintro e w2 ⟨⟨v, rfl, hv⟩, hk2⟩
  have HV : Hid (v = true → Good c ∧ Small c) := hv
  have hb2 := hk2.blk hb1
  have hK2 : Kept w w2 := hK1.trans' hk2
  clear hv hk2 hb1 hK1 c0 c1 c2 c3 c4 c5 c6 c7 c8 c9 c10 c11 
  cases v
  · go_wp2_with fail
    go_ret
    exact ⟨rfl, hK2⟩
  have hgs := HV.out rfl
  have Hg : Hid (Good c ∧ Small c) := hgs
  clear HV hgs
  have c0 := hb2.cell 0
  have c1 := hb2.cell 1
  have c2 := hb2.cell 2
  have c3 := hb2.cell 3
  have c4 := hb2.cell 4
  have c5 := hb2.cell 5
  have c6 := hb2.cell 6
  have c7 := hb2.cell 7
  have c8 := hb2.cell 8
  have c9 := hb2.cell 9
  have c10 := hb2.cell 10
  have c11 := hb2.cell 11
  simp only [List.getElem?_cons_zero, List.getElem?_cons_succ] at c0 c1 c2 c3 c4 c5 c6 c7 c8 c9 c10 c11
  go_wp2_with fail
  refine (new_good c w2 Hg.out.1).mono ?_; rintro e w3 ⟨bm, rfl, hm3, hk3⟩
  have hK3 : Kept w w3 := hK2.trans' hk3
  have hb3 := hk3.blk hb2
  clear c0 c1 c2 c3 c4 c5 c6 c7 c8 c9 c10 c11 hb2 hk3 hK2 
  go_wp2_with fail
  refine (first_any w3 hm3 Hg.out.1 (Nat.le_refl _)).mono ?_; rintro e w4 ⟨v4, rfl, hr4, hk4⟩
  obtain ⟨fl0, fl1, fall⟩ := first_facts Hg.out.1
  go_wp2_with fail
  refine (new_any w4 hr4 fl0 fl1 fall).mono ?_; rintro e w5 ⟨bs, bl, rfl, hs5, hbs5, hbl5, hk5⟩
  have hm5 := (hm3.kept hk4 (Nat.le_refl _)).kept hk5 hk4.size
  have hb5 := hk5.blk (hk4.blk hb3)
  have hK5 : Kept w w5 := (hK3.trans' hk4).trans' hk5
  have hB5 : w3.heap.size ≤ w5.heap.size := Nat.le_trans hk4.size hk5.size
  have hBs5 : w3.heap.size ≤ bs := Nat.le_trans hk4.size hbs5
  have hBl5 : w3.heap.size ≤ bl := Nat.le_trans hk4.size hbl5
  have hW3 : w.heap.size < w3.heap.size := hb3.lt
  clear hm3 hb3 hr4 hk4 hk5 hK3 hbs5 hbl5 fl0 fl1 fall 
  have c5 := hb5.cell 5
  have c7 := hb5.cell 7
  simp only [List.getElem?_cons_zero, List.getElem?_cons_succ] at c5 c7
  have hmk : 1 ≤ c.mks ∧ c.mks ≤ 4 := by have := Hg.out.1; unfold Good at this; omega
  have hdq : 2 ≤ c.dq ∧ c.dq ≤ 8 := by have := Hg.out.1; unfold Good at this; omega
  have hmany := manyI_bound Hg.out.1
  have hmz : ¬ c.mks = 0 := by omega
  have hm5b := hm5
  obtain ⟨k, hk⟩ : ∃ k : Int, k = i % c.mks := ⟨_, rfl⟩
  have hk0 : 0 ≤ k := by rw [hk]; exact Int.emod_nonneg _ hmz
  have hk1 : k < c.mks := by rw [hk]; exact Int.emod_lt_of_pos _ (by omega)
  have hkt : i.tmod c.mks = k := by rw [hk]; exact Int.tmod_eq_emod_of_nonneg hi.1
  obtain ⟨n, hn⟩ : ∃ n : Nat, (n : Int) = before % 12 := ⟨(before % 12).toNat, by omega⟩
  have hn11 : n ≤ 11 := by omega
  have hnt : before.tmod 12 = n := by rw [hn]; exact Int.tmod_eq_emod_of_nonneg hbf.1
  have y1 : IntKind.i64.wrap i = i := wrap_small hi.1 (by omega)
  have y2 : IntKind.i64.wrap k = k := wrap_small hk0 (by omega)
  have y3 : IntKind.u8.wrap (n : Int) = n := by rw [IntKind.wrap_u8]; omega
  have y4 : IntKind.i64.wrap (n : Int) = n := wrap_small (by omega) (by omega)
  have y5 : IntKind.i64.wrap ((n : Int) + 1) = n + 1 := wrap_small (by omega) (by omega)
  have y6 : IntKind.i64.wrap (c.dq + manyI c) = c.dq + manyI c := wrap_small (by omega) (by omega)
  clear hk hn
  go_wp2_with fail
  go_region_held3 (fun w' => w'.cell? ⟨w.heap.size, 7, none⟩ = some (.int .i64 c.dq)) (first | exact c7)
    (first | (go_at_call 26; refine (mPackets_any _ (hm5.drew)).mono ?_; rintro e w6 ⟨rfl, rfl⟩))
  have hK6 : Kept w w5.drew := hK5.drew
  have hb6 := hb5.drew
  have c7' := hb6.cell 7
  simp only [List.getElem?_cons_zero, List.getElem?_cons_succ] at c7'
  by_cases hbig : (n : Int) + 1 > c.dq + manyI c
  · go_wp2_with fail
    go_ret
    exact ⟨rfl, hK6⟩
  go_wp2_with fail
  go_loopw [16] (fun jv wr => ∃ (j : Nat) (mem P S : List Int) (n' : Int), j ≤ n ∧ jv = .int .i64 j ∧ AInv c k mem (zeroTo j) P S ∧ StoreAt wr bs bl mem n' ∧ Below w3.heap.size w5.drew wr) (fun jv _ => n - (intOf jv).toNat)
  case atStart => exact ⟨0, firstL c, [], _, 0, by omega, rfl, add_first Hg.out.1 ⟨hk0, hk1⟩, hs5.drew, Below.refl _ _⟩
  case round =>
    obtain ⟨j, mem, P, S, n', hj, rfl, hai, hs', hbw⟩ := hrel
    have hm' : MapAt wr w3.heap.size bm c := hm5.drew.below hbw (Nat.le_refl _)
    have z : w5.heap.size ≤ wr.heap.size := hbw.size
    have zB : w3.heap.size ≤ wr.heap.size := by omega
    have y7 : IntKind.u64.wrap (j : Int) = j := by rw [IntKind.wrap_u64]; omega
    have HB : Hid (Below w3.heap.size w5.drew wr) := hbw
    clear hbw
    by_cases hlt : (j : Int) < n
    · obtain ⟨⟨P', S', hai'⟩, _, _⟩ := add_whole (x := (j : Int)) Hg.out.1 ⟨hk0, hk1⟩ hai (by rw [zeroTo_len]; omega)
      rw [← zeroTo_succ] at hai'
      have HA : Hid (AInv c k (amRun c k 19 (mem, newAM c k (j : Int))).1 (zeroTo (j + 1)) P' S') := hai'
      clear hai' hai
      go_wp2_with fail
      refine (addNew_any (bs := bs) (bl := bl) k j wr hm' zB Hg.out.1 (by unfold U; omega) hs'.lt.1 hs'.lt.2).mono ?_; rintro e w6 ⟨a, rfl, ha6, hk6⟩
      have hs6 := hs'.kept hk6
      have hm6 := hm'.kept hk6 zB
      have z6 : wr.heap.size ≤ w6.heap.size := hk6.size
      go_wp2_with fail
      refine (whole13_any w6 Hg.out.1 ha6 hs6 hm6 (by omega) (NewB.ge zB) hBs5 hBl5).mono ?_; rintro e w7 ⟨K, rfl, _, _, _, _, _, ⟨n7, hs7⟩, hc7⟩
      have hb7 := hc7.ownBelow (B := w3.heap.size) (by omega) (NewB.ge zB) hBs5 hBl5
      go_wp2_with fail
      go_roundw
      case rel => exact ⟨j + 1, _, P', S', n7, by omega, by go_num, HA.out, hs7, (HB.out.trans (hk6.mono zB)).trans hb7⟩
      case measure => simp [intOf]; omega
    · obtain rfl : j = n := by omega
      obtain ⟨_, hsp, hK⟩ := add_whole (x := x) Hg.out.1 ⟨hk0, hk1⟩ hai (by rw [zeroTo_len]; omega)
      rw [zeroTo_len] at hsp hK
      have HSP : Hid _ := hsp
      have HK : Hid _ := hK
      clear hsp hK hai
      have hKr : Kept w wr := hK6.trans (HB.out.mono (Nat.le_of_lt hW3))
      have hbr := below_blk HB.out hb6 hW3
      go_wp2_with fail
      refine (addNew_any (bs := bs) (bl := bl) k x wr hm' zB Hg.out.1 hx hs'.lt.1 hs'.lt.2).mono ?_; rintro e w6 ⟨a, rfl, ha6, hk6⟩
      have hs6 := hs'.kept hk6
      have hm6 := hm'.kept hk6 zB
      have hbb6 := hk6.blk hbr
      have z6 : wr.heap.size ≤ w6.heap.size := hk6.size
      have hK6' : Kept w w6 := hKr.trans' hk6
      clear hbr hKr
      go_wp2_with fail
      refine (whole13_any w6 Hg.out.1 ha6 hs6 hm6 (by omega) (NewB.ge zB) hBs5 hBl5).mono ?_; rintro e w7 ⟨K, rfl, k1, _, k3, k4, ha7, ⟨n7, hs7⟩, hc7⟩
      have hb7 := hc7.ownBelow (B := w3.heap.size) (by omega) (NewB.ge zB) hBs5 hBl5
      have hbb7 := below_blk hb7 hbb6 hW3
      have hK7 : Kept w w7 := hK6'.trans (hb7.mono (Nat.le_of_lt hW3))
      have hKn := HK.out K k1 k3 k4
      have g7 := hbb7.cell 7
      simp only [List.getElem?_cons_zero, List.getElem?_cons_succ] at g7
      have HA7 : Hid (AmAt w7 a bm bs bl c k (amRun c k 19 (mem, newAM c k x)).2 _) := ha7
      clear HK k1 k3 k4 ha7 ha6 hs6 hm6 hs7 hc7 hb7 hbb6 hbb7 hK6' c5 c7 c7' hs' hm'
      by_cases hfull : (j : Int) ≥ c.dq
      · rw [if_pos hfull] at hKn
        have SP : Hid ((amRun c k 19 (mem, newAM c k x)).2.spilled = true) := HSP.out.trans (decide_eq_true hfull)
        clear HSP
        subst hKn
        go_wp2_with fail
        go_region_held3 (fun w' => w'.cell? ⟨w.heap.size, 7, none⟩ = some (.int .i64 c.dq)) (first | exact g7)
          (first | (go_at_call 48; refine (aspilled_is _ (HA7.out.drew) SP.out).mono ?_; rintro e w8 ⟨rfl, rfl⟩))
        all_goals go_wp2_with fail
        all_goals go_ret
        all_goals exact ⟨rfl, hK7.drew⟩
      · rw [if_neg hfull] at hKn
        have SP : Hid ((amRun c k 19 (mem, newAM c k x)).2.spilled = false) := HSP.out.trans (decide_eq_false hfull)
        clear HSP
        subst hKn
        have hdf : decide (c.dq ≤ (j : Int)) = false := decide_eq_false (by omega)
        go_wp2_with fail
        go_region_held3 (fun w' => w'.cell? ⟨w.heap.size, 7, none⟩ = some (.int .i64 c.dq)) (first | exact g7)
          (first | (go_at_call 48; refine (aspilled_is _ (HA7.out.drew) SP.out).mono ?_; rintro e w8 ⟨rfl, rfl⟩))
        all_goals go_wp2_with fail
        all_goals go_ret
        all_goals exact ⟨rfl, hK7.drew⟩

end Go.Proofs.Ytgfcdjedijloeaa
