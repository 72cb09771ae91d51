/- Tasks that are put somewhere one at a time, and taken: walked. -/
import Derived.Test.YtgfcdjedijloeaaPopSeq
import Derived.Test.YtgfcdjedijloeaaTen13
import Derived.Deep.QuietTactic
import Derived.BigQuiet
namespace Go.Proofs.Ytgfcdjedijloeaa
open Go.RowKit

theorem AmAt.drewN {w : World} {a bm bs bl : Nat} {c : Cfg} {i : Int} {s : AM} {O : Nat → Prop} (h : AmAt w a bm bs bl c i s O) (k : Nat) : AmAt (w.drewN k) a bm bs bl c i s O := h.chg (S := fun _ => False) ((Chg.refl _ _).drewN k) (fun _ _ => id)

theorem below_drewN {B : Nat} {w w' : World} (h : Below B w w') (k : Nat) : Below B w (w'.drewN k) := ⟨h.os, h.tape, h.output, h.size, h.block⟩

theorem bool_neq (a b : Bool) (W : World) : (binOp .neq 4 (.bool a) (.bool b)).run Try.prog W = .ok (.bool (a != b)) W := by cases a <;> cases b <;> kernel_rfl

/-- Any step of a deque's machine. -/
theorem dstep_all {b q1 q2 bs bl : Nat} {e : DEnds} {d : DQ} {mem : List Int} {n : Int} (w : World) (h : DqAt w b q1 q2 e d) (hs : StoreAt w bs bl mem n) (h1 : b ≠ bs) (h2 : b ≠ bl) :
    Calls Try.prog 51 #[.pointer (some ⟨b, 0, none⟩), .pointer (some ⟨bs, 0, none⟩)] w fun r w' => r = .returned (.bool (dqStep e mem d).2.pc.fin) ∧ DqAt w' b q1 q2 e (dqStep e mem d).2 ∧ StoreAt w' bs bl (dqStep e mem d).1 (cntIf d.pc.fin n) ∧ Chg (DqB b bs bl) w w' := by
  cases hf : d.pc.fin
  · exact dstep_any w h hs h1 h2 hf
  · have hd := dfin_iff.1 hf
    rw [dqStep_done hd]
    refine (dstepDone w _ h hd).mono ?_
    rintro r w2 ⟨rfl, rfl⟩
    exact ⟨ret_bool hf.symm, h, hs, Chg.refl _ _⟩

/-- Numbers from 1 on. -/
def oneTo (n : Nat) : List Int := (List.range n).map fun (j : Nat) => (j : Int) + 1

theorem oneTo_len (n : Nat) : (oneTo n).length = n := by simp [oneTo]

theorem oneTo_succ (n : Nat) : oneTo (n + 1) = oneTo n ++ [(n : Int) + 1] := by simp [oneTo, List.range_succ]

theorem oneTo_get {n j : Nat} (h : j < n) : (oneTo n)[j]?.getD 0 = (j : Int) + 1 := by simp [oneTo, h]

theorem DInv.ofAdd {c : Cfg} {k : Int} {mem P S : List Int} {n m : Nat} (h : AInv c k mem (oneTo n) P S) (hm : (m : Int) = min (n : Int) c.dq) : DInv c k mem (oneTo m) := by
  have hb := h.bot
  rw [oneTo_len] at hb
  refine ⟨h.top, by rw [hb, oneTo_len, hm], fun j hj => ?_⟩
  rw [oneTo_len] at hj
  rw [h.ents j (by rw [oneTo_len]; omega) (by omega), oneTo_get (by omega), oneTo_get hj]

set_option maxRecDepth 8000 in
set_option maxHeartbeats 6400000 in
theorem alone13_any (c : Cfg) (i many : Int) (w : World) (hi : 0 ≤ i ∧ i ≤ 255) (hmn : 0 ≤ many ∧ many ≤ 255) :
    Calls Try.prog 11 #[.agg #[.int .i64 c.c0, .int .i64 c.c1, .int .i64 c.c2, .int .i64 c.c3, .int .i64 c.c4, .int .i64 c.mks, .int .i64 c.mus, .int .i64 c.dq, .int .i64 c.ch, .int .i64 c.bu, .int .i64 c.ro, .int .i64 c.sw], .int .u8 i, .int .u8 many] w fun e w' => e = .returned (.bool true) ∧ Kept w w' := by
  have hb := Blk.new w 24 [.int .i64 c.c0, .int .i64 c.c1, .int .i64 c.c2, .int .i64 c.c3, .int .i64 c.c4, .int .i64 c.mks, .int .i64 c.mus, .int .i64 c.dq, .int .i64 c.ch, .int .i64 c.bu, .int .i64 c.ro, .int .i64 c.sw]
  have hk0 : Kept w (w.alloc (.cells ([.int .i64 c.c0, .int .i64 c.c1, .int .i64 c.c2, .int .i64 c.c3, .int .i64 c.c4, .int .i64 c.mks, .int .i64 c.mus, .int .i64 c.dq, .int .i64 c.ch, .int .i64 c.bu, .int .i64 c.ro, .int .i64 c.sw] : List Value).toArray 24)) := (Below.refl _ _).alloc (Nat.le_refl _) _
  go_enter Try.func11, Try.ntmps11
  go_wp2_with fail
  generalize w.alloc (.cells ([.int .i64 c.c0, .int .i64 c.c1, .int .i64 c.c2, .int .i64 c.c3, .int .i64 c.c4, .int .i64 c.mks, .int .i64 c.mus, .int .i64 c.dq, .int .i64 c.ch, .int .i64 c.bu, .int .i64 c.ro, .int .i64 c.sw] : List Value).toArray 24) = w0 at *
  refine (awake13_any w0).mono ?_; rintro e w1 ⟨rfl, hk1⟩
  have hb1 := hk1.blk hb
  have hK1 : Kept w w1 := hk0.trans' hk1
  clear hb hk0 hk1 
  have c0 := hb1.cell 0
  have c1 := hb1.cell 1
  have c2 := hb1.cell 2
  have c3 := hb1.cell 3
  have c4 := hb1.cell 4
  have c5 := hb1.cell 5
  have c6 := hb1.cell 6
  have c7 := hb1.cell 7
  have c8 := hb1.cell 8
  have c9 := hb1.cell 9
  have c10 := hb1.cell 10
  have c11 := hb1.cell 11
  simp only [List.getElem?_cons_zero, List.getElem?_cons_succ] at c0 c1 c2 c3 c4 c5 c6 c7 c8 c9 c10 c11
  go_wp2_with fail
  refine (small13_any c w1).mono ?_; rintro e w2 ⟨⟨v, rfl, hv⟩, hk2⟩
  have HV : Hid (v = true → Good c ∧ Small c) := hv
  have hb2 := hk2.blk hb1
  have hK2 : Kept w w2 := hK1.trans' hk2
  clear hv hk2 hb1 hK1 c0 c1 c2 c3 c4 c5 c6 c7 c8 c9 c10 c11 
  cases v
  · go_wp2_with fail
    go_ret
    exact ⟨rfl, hK2⟩
  have hgs := HV.out rfl
  have Hg : Hid (Good c ∧ Small c) := hgs
  clear HV hgs
  have c0 := hb2.cell 0
  have c1 := hb2.cell 1
  have c2 := hb2.cell 2
  have c3 := hb2.cell 3
  have c4 := hb2.cell 4
  have c5 := hb2.cell 5
  have c6 := hb2.cell 6
  have c7 := hb2.cell 7
  have c8 := hb2.cell 8
  have c9 := hb2.cell 9
  have c10 := hb2.cell 10
  have c11 := hb2.cell 11
  simp only [List.getElem?_cons_zero, List.getElem?_cons_succ] at c0 c1 c2 c3 c4 c5 c6 c7 c8 c9 c10 c11
  go_wp2_with fail
  refine (new_good c w2 Hg.out.1).mono ?_; rintro e w3 ⟨bm, rfl, hm3, hk3⟩
  have hK3 : Kept w w3 := hK2.trans' hk3
  have hb3 := hk3.blk hb2
  clear c0 c1 c2 c3 c4 c5 c6 c7 c8 c9 c10 c11 hb2 hk3 hK2 
  go_wp2_with fail
  refine (first_any w3 hm3 Hg.out.1 (Nat.le_refl _)).mono ?_; rintro e w4 ⟨v4, rfl, hr4, hk4⟩
  obtain ⟨fl0, fl1, fall⟩ := first_facts Hg.out.1
  go_wp2_with fail
  refine (new_any w4 hr4 fl0 fl1 fall).mono ?_; rintro e w5 ⟨bs, bl, rfl, hs5, hbs5, hbl5, hk5⟩
  have hm5 := (hm3.kept hk4 (Nat.le_refl _)).kept hk5 hk4.size
  have hb5 := hk5.blk (hk4.blk hb3)
  have hK5 : Kept w w5 := (hK3.trans' hk4).trans' hk5
  have hB5 : w3.heap.size ≤ w5.heap.size := Nat.le_trans hk4.size hk5.size
  have hBs5 : w3.heap.size ≤ bs := Nat.le_trans hk4.size hbs5
  have hBl5 : w3.heap.size ≤ bl := Nat.le_trans hk4.size hbl5
  have hW3 : w.heap.size < w3.heap.size := hb3.lt
  clear hm3 hb3 hr4 hk4 hk5 hK3 hbs5 hbl5 fl0 fl1 fall 
  have c5 := hb5.cell 5
  have c7 := hb5.cell 7
  simp only [List.getElem?_cons_zero, List.getElem?_cons_succ] at c5 c7
  have hmk : 1 ≤ c.mks ∧ c.mks ≤ 4 := by have := Hg.out.1; unfold Good at this; omega
  have hdq : 2 ≤ c.dq ∧ c.dq ≤ 8 := by have := Hg.out.1; unfold Good at this; omega
  have hmany := manyI_bound Hg.out.1
  have hmz : ¬ c.mks = 0 := by omega
  obtain ⟨k, hk⟩ : ∃ k : Int, k = i % c.mks := ⟨_, rfl⟩
  have hk0 : 0 ≤ k := by rw [hk]; exact Int.emod_nonneg _ hmz
  have hk1 : k < c.mks := by rw [hk]; exact Int.emod_lt_of_pos _ (by omega)
  have hkt : i.tmod c.mks = k := by rw [hk]; exact Int.tmod_eq_emod_of_nonneg hi.1
  obtain ⟨n, hn⟩ : ∃ n : Nat, (n : Int) = many % 12 := ⟨(many % 12).toNat, by omega⟩
  have hn11 : n ≤ 11 := by omega
  have hnt : many.tmod 12 = n := by rw [hn]; exact Int.tmod_eq_emod_of_nonneg hmn.1
  have y1 : IntKind.i64.wrap i = i := wrap_small hi.1 (by omega)
  have y2 : IntKind.i64.wrap k = k := wrap_small hk0 (by omega)
  have y3 : IntKind.i64.wrap many = many := wrap_small hmn.1 (by omega)
  have y4 : IntKind.i64.wrap (n : Int) = n := wrap_small (by omega) (by omega)
  have y6 : IntKind.i64.wrap (c.dq + manyI c) = c.dq + manyI c := wrap_small (by omega) (by omega)
  clear hk hn
  go_wp2_with fail
  go_region_held3 (fun w' => w'.cell? ⟨w.heap.size, 7, none⟩ = some (.int .i64 c.dq)) (first | exact c7)
    (first | (go_at_call 26; refine (mPackets_any _ (hm5.drew)).mono ?_; rintro e w6 ⟨rfl, rfl⟩))
  have hK6 : Kept w w5.drew := hK5.drew
  have hb6 := hb5.drew
  by_cases hbig : (n : Int) > c.dq + manyI c
  · go_wp2_with fail
    go_ret
    exact ⟨rfl, hK6⟩
  go_wp2_with fail
  go_loopw [14] (fun jv wr => ∃ (j : Nat) (mem P S : List Int) (n' : Int), j ≤ n ∧ jv = .int .i64 j ∧ AInv c k mem (oneTo j) P S ∧ StoreAt wr bs bl mem n' ∧ Below w3.heap.size w5.drew wr) (fun jv _ => n - (intOf jv).toNat)
  case atStart => exact ⟨0, firstL c, [], _, 0, by omega, rfl, add_first Hg.out.1 ⟨hk0, hk1⟩, hs5.drew, Below.refl _ _⟩
  case round =>
    obtain ⟨j, mem, P, S, n', hj, rfl, hai, hs', hbw⟩ := hrel
    have hm' : MapAt wr w3.heap.size bm c := hm5.drew.below hbw (Nat.le_refl _)
    have z : w5.heap.size ≤ wr.heap.size := hbw.size
    have zB : w3.heap.size ≤ wr.heap.size := by omega
    have HB : Hid (Below w3.heap.size w5.drew wr) := hbw
    clear hbw
    by_cases hlt : (j : Int) < n
    · have y7 : IntKind.u64.wrap (j : Int) = j := by rw [IntKind.wrap_u64]; omega
      have y8 : IntKind.u64.wrap ((j : Int) + 1) = j + 1 := by rw [IntKind.wrap_u64]; omega
      obtain ⟨⟨P', S', hai'⟩, hsp, _⟩ := add_whole (x := (j : Int) + 1) Hg.out.1 ⟨hk0, hk1⟩ hai (by rw [oneTo_len]; omega)
      rw [← oneTo_succ] at hai'
      rw [oneTo_len] at hsp
      have HA : Hid (AInv c k (amRun c k 19 (mem, newAM c k ((j : Int) + 1))).1 (oneTo (j + 1)) P' S') := hai'
      have HSP : Hid _ := hsp
      clear hai' hai hsp
      have hbr := below_blk HB.out hb6 hW3
      go_wp2_with fail
      refine (addNew_any (bs := bs) (bl := bl) k ((j : Int) + 1) wr hm' zB Hg.out.1 (by unfold U; omega) hs'.lt.1 hs'.lt.2).mono ?_; rintro e w6 ⟨a, rfl, ha6, hk6⟩
      have hs6 := hs'.kept hk6
      have hm6 := hm'.kept hk6 zB
      have hbb6 := hk6.blk hbr
      have z6 : wr.heap.size ≤ w6.heap.size := hk6.size
      clear hbr
      go_wp2_with fail
      refine (whole13_any w6 Hg.out.1 ha6 hs6 hm6 (by omega) (NewB.ge zB) hBs5 hBl5).mono ?_; rintro e w7 ⟨K, rfl, _, _, _, _, ha7, ⟨n7, hs7⟩, hc7⟩
      have hb7 := hc7.ownBelow (B := w3.heap.size) (by omega) (NewB.ge zB) hBs5 hBl5
      have hbb7 := below_blk hb7 hbb6 hW3
      have g7 := hbb7.cell 7
      simp only [List.getElem?_cons_zero, List.getElem?_cons_succ] at g7
      have HA7 : Hid (AmAt w7 a bm bs bl c k (amRun c k 19 (mem, newAM c k ((j : Int) + 1))).2 _) := ha7
      clear ha7 ha6 hs6 hm6 hc7 hbb6 hbb7 c5 c7 hs' hm'
      go_wp2_with fail
      by_cases hfull : (j : Int) ≥ c.dq
      · have SP : Hid ((amRun c k 19 (mem, newAM c k ((j : Int) + 1))).2.spilled = true) := HSP.out.trans (decide_eq_true hfull)
        clear HSP
        have hdf : decide (c.dq ≤ (j : Int)) = true := decide_eq_true hfull
        have hnq := fun W => bool_neq true true W
        go_quiet ((go_at_call 48; exact Calls.quiet_of_same ((aspilled_is _ (HA7.out.drewN _) SP.out).mono fun _ _ h => ⟨h.1, h.2.symm⟩)))
        all_goals go_wp2_with fail
        all_goals go_roundw
        case rel => exact ⟨j + 1, _, P', S', n7, by omega, by go_num, HA.out, hs7.drewN _, below_drewN ((HB.out.trans (hk6.mono zB)).trans hb7) _⟩
        case measure => simp [intOf]; omega
      · have SP : Hid ((amRun c k 19 (mem, newAM c k ((j : Int) + 1))).2.spilled = false) := HSP.out.trans (decide_eq_false hfull)
        clear HSP
        have hdf : decide (c.dq ≤ (j : Int)) = false := decide_eq_false (by omega)
        have hnq := fun W => bool_neq false false W
        go_quiet ((go_at_call 48; exact Calls.quiet_of_same ((aspilled_is _ (HA7.out.drewN _) SP.out).mono fun _ _ h => ⟨h.1, h.2.symm⟩)))
        all_goals go_wp2_with fail
        all_goals go_roundw
        case rel => exact ⟨j + 1, _, P', S', n7, by omega, by go_num, HA.out, hs7.drewN _, below_drewN ((HB.out.trans (hk6.mono zB)).trans hb7) _⟩
        case measure => simp [intOf]; omega
    · obtain rfl : j = n := by omega
      have hKr : Kept w wr := hK6.trans (HB.out.mono (Nat.le_of_lt hW3))
      have hbr := below_blk HB.out hb6 hW3
      obtain ⟨hL, hG⟩ := add_held Hg.out.1 hai
      have hpl := hai.pool
      rw [oneTo_len] at hpl hG
      have hD : Hid _ := hai
      go_wp2_with fail
      refine (mAll_any wr hs').mono ?_; rintro e w7 ⟨rfl, hb7, hk7⟩
      have hr7 : Row w7 (.slice (some ⟨wr.heap.size, 0, none⟩) mem.length mem.length) (mem.map (Value.int .u64)) := by
        have := hb7.row (by have := hs'.le; simp; unfold maxLen; omega)
        simpa using this
      have z7 : wr.heap.size ≤ w7.heap.size := hk7.size
      have hs7 := hs'.kept hk7
      have hm7 := hm'.kept hk7 zB
      have hbb7 := hk7.blk hbr
      have hK7 : Kept w w7 := hKr.trans' hk7
      go_wp2_with fail
      refine (held_any w7 Hg.out.1 hm7 (by omega) hr7 hs'.pos hs'.le hs'.all).mono ?_; rintro e w8 ⟨v8, rfl, own8, hk8⟩
      obtain ⟨a8, c8, rfl⟩ := own_slice own8
      have z8 : w7.heap.size ≤ w8.heap.size := hk8.size
      have hs8 := hs7.kept hk8
      have hm8 := hm7.kept hk8 (by omega)
      have hbb8 := hk8.blk hbb7
      have hK8 : Kept w w8 := hK7.trans' hk8
      obtain ⟨L, hLn⟩ : ∃ L : Nat, L = (heldL c mem).length := ⟨_, rfl⟩
      have hLv : max ((j : Int) - c.dq) 0 = L := by rw [hLn, hL]; exact hpl.symm
      have hxs : ∀ q : Nat, q < L → ((heldL c mem).map (Value.int .u64))[q]? = some (.int .u64 ((j : Int) - q)) := fun q hq => by
        rw [List.getElem?_map, hG q (by omega), oneTo_get (by omega)]
        simp only [Option.map_some]
        rw [show (((j - 1 - q : Nat) : Int) + 1) = (j : Int) - q from by omega]
      have hlx : ((heldL c mem).map (Value.int .u64)).length = L := by simp [hLn]
      rw [← hLn] at own8 ⊢
      generalize (heldL c mem).map (Value.int .u64) = xs at own8 hxs hlx
      have g7 := hbb8.cell 7
      simp only [List.getElem?_cons_zero, List.getElem?_cons_succ] at g7
      have y9 : IntKind.i64.wrap ((j : Int) - c.dq) = j - c.dq := IntWalk.i64_in _ (by omega)
      clear hb7 hr7 hk7 hk8 hs7 hs' hm' hm7 hbr hKr hK7 hbb7 hpl hG hL hLn hai c5 c7
      go_wp2_with fail
      go_loopw [17] (fun qv wr' => ∃ q : Nat, q ≤ L ∧ qv = .int .i64 q ∧ w8 = wr') (fun qv _ => L - (intOf qv).toNat)
      case atStart => exact ⟨0, by omega, rfl, rfl⟩
      case round =>
        obtain ⟨q, hq, rfl, rfl⟩ := hrel
        by_cases hql : (q : Int) < L
        · obtain ⟨g8, rfl, hc8⟩ := own_cell own8 (k := q) (by rw [hlx]; omega)
          rw [hxs q (by omega)] at hc8
          have y10 : IntKind.i64.wrap ((j : Int) - q) = j - q := IntWalk.i64_in _ (by omega)
          have y11 : IntKind.u64.wrap ((j : Int) - q) = j - q := by rw [IntKind.wrap_u64]; omega
          clear hxs
          go_wp2_with fail
          go_roundw
          case rel => exact ⟨q + 1, by omega, by go_num, by first | rfl | trivial⟩
          case measure => simp [intOf]; omega
        · obtain rfl : q = L := by omega
          clear hxs
          obtain ⟨m0, hm0⟩ : ∃ m0 : Nat, (m0 : Int) = min (j : Int) c.dq := ⟨(min (j : Int) c.dq).toNat, by omega⟩
          have hm0' : min (j : Int) c.dq = m0 := hm0.symm
          have hDI : Hid (DInv c k mem (oneTo m0)) := DInv.ofAdd hD.out hm0
          have hml := hD.out.inv.len
          have hm0b : m0 ≤ 8 := by omega
          have hm0d : (m0 : Int) ≤ c.dq := by omega
          clear hD hm0
          go_wp2_with fail
          have zW : w3.heap.size ≤ w8.heap.size := by omega
          clear hlx own8 hLv g7 y9 hq hql hj hlt
          go_loopw [18] (fun jv wq => ∃ (r : Nat) (mq : List Int) (n2 : Int), r ≤ m0 ∧ jv = .int .i64 r ∧ (mq.length : Int) = allI c ∧ (0 < r → DInv c k mq (oneTo r)) ∧ StoreAt wq bs bl mq n2 ∧ Below w3.heap.size w8 wq) (fun jv _ => (intOf jv).toNat)
          case atStart => exact ⟨m0, mem, _, by omega, rfl, hml, fun _ => hDI.out, hs8, Below.refl _ _⟩
          case round =>
            obtain ⟨r, mq, n2, hr, rfl, hmq, hdi, hsq, hbq⟩ := hrel
            have zq : w8.heap.size ≤ _ := hbq.size
            have hmq' := hm8.below hbq (Nat.le_refl _)
            have HQ : Hid _ := hbq
            clear hbq
            match r, hr, hdi with
            | 0, _, _ =>
              have hKq := hK8.trans (HQ.out.mono (Nat.le_of_lt hW3))
              go_wp2_with fail
              go_ret
              exact ⟨rfl, hKq⟩
            | r + 1, hr, hdi =>
              have hdi' := hdi (by omega)
              rw [oneTo_succ] at hdi'
              obtain ⟨mq', pb, pt, pw, hrun, hlen', hnext, _⟩ := pop_seq Hg.out.1 ⟨hk0, hk1⟩ hmq hdi' (by rw [oneTo_len]; omega)
              rw [oneTo_len] at hnext
              have HN : Hid (0 < r → DInv c k mq' (oneTo r)) := hnext
              have HR : Hid _ := hrun
              have HL : Hid ((mq'.length : Int) = allI c) := hlen'
              have x1 : IntKind.u64.wrap ((r : Int) + 1) = r + 1 := by rw [IntKind.wrap_u64]; omega
              clear hdi' hdi hnext hrun hlen'
              go_wp2_with fail
              refine (ends_any k _ hmq' (by omega) Hg.out.1).mono ?_; rintro e w9 ⟨rfl, hk9⟩
              have z9 := hk9.size
              have hs9 := hsq.kept hk9
              go_wp2_with fail
              refine (pop_deq (endsOf c k) w9 (ends_ok Hg.out.1 k)).mono ?_; rintro e w10 ⟨db, q1, q2, rfl, hd10, d1, d2, d3, hk10⟩
              have z10 := hk10.size
              have hs10 := hs9.kept hk10
              have hl9 := hs9.lt
              have hb10 : Below w3.heap.size w8 w10 := (HQ.out.trans (hk9.mono (by omega))).trans (hk10.mono (by omega))
              have HB10 : Hid (Below w3.heap.size w8 w10) := hb10
              clear hb10 hs9 hk9 hk10 HQ hmq' hsq
              go_wp2_with fail
              go_loopw [20] (fun iv wi => ∃ (u : Nat) (n3 : Int), u ≤ 6 ∧ iv = .int .i64 u ∧ DqAt wi db q1 q2 (endsOf c k) (dqRun (endsOf c k) u (mq, popD)).2 ∧ StoreAt wi bs bl (dqRun (endsOf c k) u (mq, popD)).1 n3 ∧ Chg (DqB db bs bl) w10 wi) (fun iv _ => 6 - (intOf iv).toNat)
              case atStart => exact ⟨0, _, by omega, rfl, hd10, hs10, Chg.refl _ _⟩
              case round =>
                obtain ⟨u, n3, hu, rfl, hdu, hsu, hcu⟩ := hrel
                by_cases hu6 : (u : Int) < 6
                · have D := dstep_all _ hdu hsu (by omega) (by omega)
                  rw [show dqStep (endsOf c k) (dqRun (endsOf c k) u (mq, popD)).1 (dqRun (endsOf c k) u (mq, popD)).2 = dqRun (endsOf c k) (u + 1) (mq, popD) from rfl] at D
                  go_wp2_with fail
                  refine D.mono ?_; rintro e w11 ⟨rfl, hd11, hs11, hc11⟩
                  go_wp2_with fail
                  go_roundw
                  case rel => exact ⟨u + 1, _, by omega, by go_num, hd11, hs11, hcu.trans hc11⟩
                  case measure => simp [intOf]; omega
                · obtain rfl : u = 6 := by omega
                  rw [HR.out] at hdu hsu
                  have hbu : Below w3.heap.size w10 _ := hcu.toBelow (by omega) (fun q hq e => by rcases e with e | e | e <;> omega)
                  have hbW := HB10.out.trans hbu
                  have R := dresult_any _ hdu rfl
                  clear hdu hcu hbu
                  go_wp2_with fail
                  refine R.mono ?_; rintro e w11 ⟨rfl, hk11⟩
                  have hs11 := hsu.kept hk11
                  have hzz := hbW.size
                  have hb11 := hbW.trans (hk11.mono (by omega))
                  have HB11 : Hid (Below w3.heap.size w8 w11) := hb11
                  clear hbW hb11 hk11 hsu R
                  go_wp2_with fail
                  go_roundw
                  case rel => exact ⟨r, mq', _, by omega, by go_num, HL.out, HN.out, hs11, HB11.out⟩
                  case measure => simp [intOf]

end Go.Proofs.Ytgfcdjedijloeaa
