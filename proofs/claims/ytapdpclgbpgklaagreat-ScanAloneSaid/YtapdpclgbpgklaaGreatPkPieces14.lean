/- All tasks of a node, from its first one on: walked. -/
import Derived.Test.YtapdpclgbpgklaaGreatPkL
import Derived.Test.YtapdpclgbpgklaaGreatPkFil14
import Derived.Test.YtapdpclgbpgklaaGreatPkSm14
import Derived.Test.YtapdpclgbpgklaaGreatPkM
import Derived.Test.YtapdpclgbpgklaaGreatPkF
namespace Go.Proofs.YtapdpclgbpgklaaGreat
open Go.RowKit

theorem task_parts {x fr : Int} (h0 : 0 ≤ x) (h1 : x ≤ 1000) (h2 : 0 ≤ fr) (h3 : fr ≤ 1000) : U (x * 4294967296 + fr) ∧ hiI (x * 4294967296 + fr) = x ∧ loI (x * 4294967296 + fr) = fr ∧ IntKind.u32.wrap x = x ∧ IntKind.u32.wrap fr = fr := by
  refine ⟨by unfold U; omega, by unfold hiI; omega, by unfold loI; omega, by rw [IntKind.wrap_u32]; omega, by rw [IntKind.wrap_u32]; omega⟩

theorem Fil.ainv {c : Cfg} {mem : List Int} (hg : Good c) (h : Fil c mem) : ∃ P S, AInv c 0 mem [] P S := by
  have hk : (0 : Int) ≤ 0 ∧ (0 : Int) < c.mks := by unfold Good at hg; omega
  refine ⟨[], _, (add_first hg hk).frame hg hk h.len (fun a ha h1 => h.same a (fun v j v1 v2 hj hr e => ?_))⟩
  have h3 := (node_place (c := c) v1 v2 (j := j) (by omega) hr).1
  omega

theorem ainv_put {c : Cfg} {mem ts P S : List Int} {a x : Int} (hg : Good c) (h : AInv c 0 mem ts P S) (ha : node0I c ≤ a) : AInv c 0 (mput mem a x) ts P S := by
  have hk : (0 : Int) ≤ 0 ∧ (0 : Int) < c.mks := by unfold Good at hg; omega
  exact h.frame hg hk (mput_len _ _ _) (fun b hb _ => mget_other (by omega))

set_option maxRecDepth 8000 in
set_option maxHeartbeats 6400000 in
theorem pieces14_any (c : Cfg) (v : Int) (v1 : Value) (fs : List Int) (w : World) (hv : 0 ≤ v ∧ v ≤ 255) (hp : Reads w v1 (fs.map (Value.int .u64))) (hz : ∀ z ∈ fs, U z) :
    Calls Tryz.prog 4 #[.agg #[.int .i64 c.c0, .int .i64 c.c1, .int .i64 c.c2, .int .i64 c.c3, .int .i64 c.c4, .int .i64 c.mks, .int .i64 c.mus, .int .i64 c.dq, .int .i64 c.ch, .int .i64 c.bu, .int .i64 c.ro, .int .i64 c.sw], .int .u8 v, v1] w fun e w' => e = .returned (.bool true) ∧ Kept w w' := by
  obtain ⟨ao1, cp1, e1⟩ := hp.form
  rw [List.length_map] at e1
  subst e1
  obtain ⟨fl, hfl⟩ : ∃ fl : Nat, fs.length = fl := ⟨_, rfl⟩
  have HP : Hid (Reads w (.slice ao1 fs.length cp1) (fs.map (Value.int .u64))) := hp
  rw [hfl]
  have HFL : Hid (fs.length = fl) := hfl
  clear hp hfl
  have hb := Blk.new w 24 [.int .i64 c.c0, .int .i64 c.c1, .int .i64 c.c2, .int .i64 c.c3, .int .i64 c.c4, .int .i64 c.mks, .int .i64 c.mus, .int .i64 c.dq, .int .i64 c.ch, .int .i64 c.bu, .int .i64 c.ro, .int .i64 c.sw]
  have hk0 : Kept w (w.alloc (.cells ([.int .i64 c.c0, .int .i64 c.c1, .int .i64 c.c2, .int .i64 c.c3, .int .i64 c.c4, .int .i64 c.mks, .int .i64 c.mus, .int .i64 c.dq, .int .i64 c.ch, .int .i64 c.bu, .int .i64 c.ro, .int .i64 c.sw] : List Value).toArray 24)) := (Below.refl _ _).alloc (Nat.le_refl _) _
  go_enter Tryz.func4, Tryz.ntmps4
  go_wp2_with fail
  generalize w.alloc (.cells ([.int .i64 c.c0, .int .i64 c.c1, .int .i64 c.c2, .int .i64 c.c3, .int .i64 c.c4, .int .i64 c.mks, .int .i64 c.mus, .int .i64 c.dq, .int .i64 c.ch, .int .i64 c.bu, .int .i64 c.ro, .int .i64 c.sw] : List Value).toArray 24) = w0 at *
  refine (awake14_any w0).mono ?_; rintro e w1 ⟨rfl, hk1⟩
  have hb1 := hk1.blk hb
  have hK1 : Kept w w1 := hk0.trans' hk1
  clear hb hk0 hk1 
  have c0 := hb1.cell 0
  have c1 := hb1.cell 1
  have c2 := hb1.cell 2
  have c3 := hb1.cell 3
  have c4 := hb1.cell 4
  have c5 := hb1.cell 5
  have c6 := hb1.cell 6
  have c7 := hb1.cell 7
  have c8 := hb1.cell 8
  have c9 := hb1.cell 9
  have c10 := hb1.cell 10
  have c11 := hb1.cell 11
  simp only [List.getElem?_cons_zero, List.getElem?_cons_succ] at c0 c1 c2 c3 c4 c5 c6 c7 c8 c9 c10 c11
  go_wp2_with fail
  refine (small14_any c w1).mono ?_; rintro e w2 ⟨⟨v, rfl, hv⟩, hk2⟩
  have HV : Hid (v = true → Good c ∧ Small c) := hv
  have hb2 := hk2.blk hb1
  have hK2 : Kept w w2 := hK1.trans' hk2
  clear hv hk2 hb1 hK1 c0 c1 c2 c3 c4 c5 c6 c7 c8 c9 c10 c11 
  cases v
  · go_wp2_with fail
    go_ret
    exact ⟨rfl, hK2⟩
  have hgs := HV.out rfl
  have Hg : Hid (Good c ∧ Small c) := hgs
  clear HV hgs
  by_cases h40 : (fl : Int) > 40
  · go_wp2_with fail
    go_ret
    exact ⟨rfl, hK2⟩
  by_cases h00 : (fl : Int) = 0
  · go_wp2_with fail
    go_ret
    exact ⟨rfl, hK2⟩
  have h41 : ¬ (40 : Int) < fl := by omega
  have hd4 : decide ((40 : Int) < fl) = false := decide_eq_false h41
  have hd0 : decide ((fl : Int) = 0) = false := decide_eq_false h00
  have h01 : ¬ fl = 0 := by omega
  have c0 := hb2.cell 0
  have c1 := hb2.cell 1
  have c2 := hb2.cell 2
  have c3 := hb2.cell 3
  have c4 := hb2.cell 4
  have c5 := hb2.cell 5
  have c6 := hb2.cell 6
  have c7 := hb2.cell 7
  have c8 := hb2.cell 8
  have c9 := hb2.cell 9
  have c10 := hb2.cell 10
  have c11 := hb2.cell 11
  simp only [List.getElem?_cons_zero, List.getElem?_cons_succ] at c0 c1 c2 c3 c4 c5 c6 c7 c8 c9 c10 c11
  go_wp2_with fail
  refine (new_good c w2 Hg.out.1).mono ?_; rintro e w3 ⟨bm, rfl, hm3, hk3⟩
  have hK3 : Kept w w3 := hK2.trans' hk3
  have hb3 := hk3.blk hb2
  have hW3 : w.heap.size < w3.heap.size := hb3.lt
  clear c0 c1 c2 c3 c4 c5 c6 c7 c8 c9 c10 c11 hb2 hk3 hK2 
  go_wp2_with fail
  rw [← HFL.out]
  refine (filled14_any w3 Hg.out.1 hm3 (Nat.le_refl _) (HP.out.kept hK3) hz (by rw [HFL.out]; omega)).mono ?_; rintro e w5 ⟨bs, bl, mem0, n0, rfl, hs5, hfil, hbs5, hbl5, hk5⟩
  have hm5 := hm3.kept hk5 (Nat.le_refl _)
  have hK5 : Kept w w5 := hK3.trans' hk5
  have hB5 : w3.heap.size ≤ w5.heap.size := hk5.size
  clear hm3 hk5
  have hnb := nN_bound Hg.out.1
  obtain ⟨nn, hnn⟩ : ∃ nn : Nat, nN c = nn := ⟨_, rfl⟩
  rw [hnn] at hnb
  have HNN : Hid (nN c = nn) := hnn
  clear hnn
  have hnz : ¬ (nn : Int) = 0 := by omega
  obtain ⟨u, hu⟩ : ∃ u : Int, u = v % nn := ⟨_, rfl⟩
  have hu0 : 0 ≤ u := by rw [hu]; exact Int.emod_nonneg _ hnz
  have hu1 : u < nn := by rw [hu]; exact Int.emod_lt_of_pos _ (by omega)
  have hut : v.tmod nn = u := by rw [hu]; exact Int.tmod_eq_emod_of_nonneg hv.1
  have y1 : IntKind.i64.wrap v = v := wrap_small hv.1 (by omega)
  have y2 : IntKind.i64.wrap u = u := wrap_small hu0 (by omega)
  have y3 : IntKind.i64.wrap (u + 1) = u + 1 := wrap_small (by omega) (by omega)
  clear hu
  go_wp2_with fail
  refine (mNodes_any w5 hm5).mono ?_; rintro e wx ⟨rfl, rfl⟩
  rw [HNN.out]
  go_wp2_with fail
  have hv1 : 1 ≤ u + 1 ∧ u + 1 ≤ nN c := by rw [HNN.out]; omega
  obtain ⟨x, hx⟩ : ∃ x : Int, x = u + 1 := ⟨_, rfl⟩
  rw [← hx] at hv1 ⊢
  have hroom := room_bound c x
  have hpos : room c x ≠ 0 := fun e => room_zero.1 e hv1
  obtain ⟨rm, hrm⟩ : ∃ rm : Nat, room c x = rm := ⟨(room c x).toNat, by omega⟩
  rw [hrm] at hroom hpos
  have HRM : Hid (room c x = rm) := hrm
  have HX : Hid (x = u + 1) := hx
  clear hrm hx
  have yrm : IntKind.u64.wrap (rm : Int) = rm := by rw [IntKind.wrap_u64]; omega
  refine (mRoom_any x w5 hm5 Hg.out.1).mono ?_; rintro e wx ⟨rfl, rfl⟩
  rw [HRM.out]
  go_wp2_with fail
  refine (mHeader_any x w5 hm5 Hg.out.1).mono ?_; rintro e wx ⟨rfl, rfl⟩
  go_wp2_with fail
  refine (put_any (pNode c x 0) rm w5 hs5 (by unfold U; omega)).mono ?_; rintro e w6 ⟨rfl, hs6, hc6⟩
  have hb6 : Below w3.heap.size w5 w6 := hc6.toBelow hB5 (fun q hq e => by rcases e with e | e <;> omega)
  have hm6 := hm5.below hb6 (Nat.le_refl _)
  have hK6 : Kept w w6 := hK5.trans (hb6.mono (Nat.le_of_lt hW3))
  have z6 : w5.heap.size ≤ w6.heap.size := hc6.size
  have hnp := pNode_far Hg.out.1 hv1 (j := 0) (by omega) (by omega)
  have hlen : mem0.length = (allI c).toNat := hfil.len.trans (freeTo_len c _)
  have hpl := (node_place (c := c) hv1.1 hv1.2 (j := 0) (by omega) (by have := HRM.out; omega)).2
  have hA := allI_bound Hg.out.1
  have hn0 := node0_bound Hg.out.1
  have HA0 : Hid (∃ P S, AInv c 0 (mput mem0 (pNode c x 0) rm) [] P S) := by
    obtain ⟨P, S, h⟩ := hfil.ainv Hg.out.1
    exact ⟨P, S, ainv_put Hg.out.1 h hnp⟩
  have HD0 : Hid (mget (mput mem0 (pNode c x 0) rm) (pNode c x 0) = rm) := mget_put (by omega)
  have HL0 : Hid ((mput mem0 (pNode c x 0) rm).length = (allI c).toNat) := by unfold Hid; rw [mput_len]; exact hlen
  generalize mput mem0 (pNode c x 0) rm = mem1 at *
  clear hs5 hfil hm5 hK5 hc6 hb6 hlen
  go_wp2_with fail
  go_loopw [14] (fun kv wr => ∃ (k : Nat) (mem : List Int) (n' : Int), 1 ≤ k ∧ k ≤ nn + 1 ∧ kv = .int .i64 k ∧ mget mem (pNode c x 0) = rm ∧ (∀ t : Int, 1 ≤ t → t < k → mget mem (pNode c t 2) = 5) ∧ (∃ P S, AInv c 0 mem [] P S) ∧ mem.length = (allI c).toNat ∧ StoreAt wr bs bl mem n' ∧ Below w3.heap.size w6 wr) (fun kv _ => nn + 1 - (intOf kv).toNat)
  case atStart => exact ⟨1, mem1, _, by omega, by omega, rfl, HD0.out, fun t t1 t2 => by omega, HA0.out, HL0.out, hs6, Below.refl _ _⟩
  case round =>
    obtain ⟨k, mem, n', hk1, hk2, rfl, hhd, hmk, hai, hlen, hs, hbw⟩ := hrel
    have hm' := hm6.below hbw (Nat.le_refl _)
    have zr : w6.heap.size ≤ wr.heap.size := hbw.size
    have HHD : Hid _ := hhd
    have HMK : Hid _ := hmk
    have HAI : Hid _ := hai
    have HLN : Hid _ := hlen
    clear hhd hmk hai hlen hs6
    by_cases hlt : (k : Int) ≤ nn
    · have hkv : 1 ≤ (k : Int) ∧ (k : Int) ≤ nN c := by rw [HNN.out]; omega
      have yk : IntKind.i64.wrap ((k : Int) + 1) = k + 1 := wrap_small (by omega) (by omega)
      go_wp2_with fail
      refine (mNodes_any wr hm').mono ?_; rintro e wx ⟨rfl, rfl⟩
      rw [HNN.out]
      go_wp2_with fail
      refine (mMark_any k wr hm' Hg.out.1).mono ?_; rintro e wx ⟨rfl, rfl⟩
      go_wp2_with fail
      refine (put_any (pNode c k 2) 5 wr hs (by unfold U; omega)).mono ?_; rintro e w7 ⟨rfl, hs7, hc7⟩
      have hb7 : Below w3.heap.size wr w7 := hc7.toBelow (by omega) (fun q hq e => by rcases e with e | e <;> omega)
      have hmp := mark_place Hg.out.1 hkv
      go_wp2_with fail
      go_roundw
      case rel =>
        refine ⟨k + 1, _, _, by omega, by omega, by go_num, ?_, ?_, ?_, ?_, hs7, hbw.trans hb7⟩
        · rw [mget_other (node_ne hv1 hkv (by have := HRM.out; omega) (by have := room_bound c k; omega) (.inr (by omega)))]; exact HHD.out
        · intro t t1 t2
          by_cases e : t = k
          · subst e; exact mget_put (by have := HLN.out; omega)
          · rw [mget_other (mark_ne ⟨t1, by omega⟩ hkv e)]; exact HMK.out t t1 (by omega)
        · obtain ⟨P, S, h⟩ := HAI.out
          exact ⟨P, S, ainv_put Hg.out.1 h hmp.1⟩
        · rw [mput_len]; exact HLN.out
      case measure => simp [intOf]; omega
    · obtain rfl : k = nn + 1 := by omega
      have HG : Hid (Gm c x 5 mem) := ⟨by rw [HHD.out, HRM.out], fun t t1 t2 => by rw [HMK.out t t1 (by have := HNN.out; omega)]; omega⟩
      clear HMK HHD HLN HA0 HD0 HL0
      have hK7 : Kept w wr := hK6.trans (hbw.mono (Nat.le_of_lt hW3))
      have hmn := mNodes_any wr hm'
      generalize wr = w7 at *
      have hmk2 := run_make_row' (P := Tryz.prog) 25 3 (.int .i64 0) 8 Tryz.underlying25 info_int rfl .i64 .i64 rm (by omega) (by omega) w7
      have hO : madeCells #[Value.int .i64 0] rm = (seenL rm 0).toArray := by
        rw [← Array.toList_inj, toList_madeCells_one, seenL_nil]; simp
      rw [hO] at hmk2
      clear hO
      have hk8 : Kept w7 (w7.alloc (.cells (seenL rm 0).toArray 3)) := (Below.refl _ _).alloc (Nat.le_refl _) _
      have hg8 : Blk (w7.alloc (.cells (seenL rm 0).toArray 3)) w7.heap.size 3 (seenL rm 0) := Blk.new _ _ _
      generalize hw8 : w7.alloc (.cells (seenL rm 0).toArray 3) = w8 at hmk2 hk8 hg8
      have hs8 := hs.kept hk8
      have hm8 := hm'.kept hk8 (by omega)
      have hK8 : Kept w w8 := hK7.trans' hk8
      have z8 : w7.heap.size < w8.heap.size := hg8.lt
      obtain ⟨gs, hgs⟩ : ∃ gs, gs = w7.heap.size := ⟨_, rfl⟩
      rw [← hgs] at hmk2 hg8 z8
      have hgs7 : w7.heap.size ≤ gs := by omega
      have hl7 := hs.lt
      clear hw8 hgs hs hm' hk8 hK7
      go_wp2_with fail
      refine hmn.mono ?_; rintro e wx ⟨rfl, rfl⟩
      rw [HNN.out]
      go_wp2_with fail
      clear hmk2
      have hch : 1 ≤ c.ch ∧ c.ch ≤ 16 := by have := Hg.out.1; unfold Good at this; omega
      have hmk0 : (0 : Int) ≤ 0 ∧ (0 : Int) < c.mks := by have := Hg.out.1; unfold Good at this; omega
      have hgs0 : w3.heap.size ≤ gs := by omega
      have hgsb : gs ≠ bs ∧ gs ≠ bl := by omega
      go_loopw [16, 17] (fun fv nv wr => ∃ (n : Nat) (fr : Int) (mem ts : List Int) (n' : Int), nv = .int .i64 n ∧ fv = .int .i64 fr ∧ Below w3.heap.size w8 wr ∧ Blk wr gs 3 (seenL rm (if fr = -1 then (rm : Int) else fr)) ∧ StoreAt wr bs bl mem n' ∧ Gm c x 5 mem ∧ (∃ P S, AInv c 0 mem ts P S) ∧ n ≤ rm ∧ (fr = -1 ∨ (0 ≤ fr ∧ fr < rm ∧ fr = n * c.ch ∧ ts.length = n))) (fun _ nv _ => rm + 1 - (intOf nv).toNat)
      case atStart => exact ⟨0, 0, mem, [], _, rfl, rfl, Below.refl _ _, hg8, hs8, HG.out, HAI.out, by omega, .inr ⟨by omega, by omega, by simp, rfl⟩⟩
      case round =>
        clear hs8 hg8 HG HAI
        obtain ⟨n, fr, mem, ts, n', rfl, rfl, hbw8, hgw, hs, hG, hA, hn1, hcase⟩ := hrel
        have hmw := hm8.below hbw8 (Nat.le_refl _)
        have zr := hbw8.size
        have hn1' : (n : Int) ≤ rm := by omega
        rcases hcase with rfl | ⟨hf0, hf1, hfn, htn⟩
        · rw [if_pos rfl] at hgw
          have hKr : Kept w wr := hK8.trans (hbw8.mono (Nat.le_of_lt hW3))
          clear hs hG hA hmw hbw8
          generalize wr = w9 at *
          go_wp2_with fail
          go_loopw [21] (fun iv wr => ∃ i : Nat, i ≤ rm ∧ iv = .int .i64 i ∧ wr = w9) (fun iv _ => rm - (intOf iv).toNat)
          case atStart => exact ⟨0, by omega, rfl, rfl⟩
          case round =>
            obtain ⟨i, hi, rfl, rfl⟩ := hrel
            by_cases hil : (i : Int) < rm
            · have hgc := hgw.cell i
              rw [seenL_get (by omega), if_pos hil] at hgc
              have yi : IntKind.i64.wrap ((i : Int) + 1) = i + 1 := wrap_small (by omega) (by omega)
              go_wp2_with fail
              go_roundw
              case rel => exact ⟨i + 1, by omega, by go_num, by first | rfl | trivial⟩
              case measure => simp [intOf]; omega
            · go_wp2_with fail
              go_ret
              exact ⟨rfl, hKr⟩
        · rw [if_neg (show ¬ fr = -1 by omega)] at hgw
          have hxn : x ≤ nn := by have := HNN.out; omega
          have HFN : Hid (fr = n * c.ch) := hfn
          have HTN : Hid (ts.length = n) := htn
          have HFIT : Hid ((ts.length : Int) + 1 ≤ c.dq + manyI c) := by
            unfold Hid; rw [htn]; exact pieces_fit Hg.out.1 hv1 n (by rw [← hfn, HRM.out]; exact hf1)
          have hnlt : n < rm := by
            have h1 := Int.mul_le_mul_of_nonneg_left hch.1 (show (0 : Int) ≤ n by omega)
            omega
          clear hfn htn
          obtain ⟨hU, hhi, hlo, yx, yf⟩ := task_parts (x := x) (fr := fr) (by omega) (by omega) hf0 (by omega)
          have hf2 : fr < 4294967296 := by omega
          have hx2 : x < 4294967296 := by omega
          obtain ⟨tk, htk⟩ : ∃ tk : Int, tk = x * 4294967296 + fr := ⟨_, rfl⟩
          rw [← htk] at hU hhi hlo
          have hls := hs.lt
          have HTK : Hid (x * 4294967296 + fr = tk) := htk.symm
          clear htk
          have hL0 : Hid (LS c x fr 5 ts mem (newYS c 0 tk 5) 60 fr false) := ⟨⟨hhi, hlo, rfl, rfl⟩, rfl, rfl, rfl, hG, hA⟩
          clear hG hA hhi hlo
          go_wp2_with fail
          refine (pair_any x fr wr (by omega) hx2 hf0 hf2).mono ?_; rintro e wx ⟨rfl, rfl⟩
          rw [HTK.out]
          go_wp2_with fail
          refine (scanNew_any (bm := bm) (bs := bs) (bl := bl) (c := c) 0 tk 5 wr hmk0 hU (by unfold U; omega) hls.1 hls.2).mono ?_; rintro e w9 ⟨sx, rfl, hsx, hsxx, hk9⟩
          have hs9 := hs.kept hk9
          have hm9 := hmw.kept hk9 (by omega)
          have hb9 : Below w3.heap.size w8 w9 := hbw8.trans (hk9.mono (by omega))
          have hg9 := hk9.blk hgw
          have z9 : wr.heap.size ≤ w9.heap.size := hk9.size
          have hgl := hgw.lt
          have hO9 : ∀ q, NewB wr w9 q → gs < q := fun q hq => by have := hq.1; omega
          generalize NewB wr w9 = O9 at *
          clear hs hmw hbw8 hk9 hgw
          go_wp2_with fail
          have hinit : LS c x fr 5 ts mem (newYS c 0 tk 5) 60 fr false := hL0.out
          have hp0 : (newYS c 0 tk 5).pc ≠ .done := by intro e; cases e
          have he0 : EvOk (newYS c 0 tk 5).ev := .inl rfl
          clear hL0
          generalize newYS c 0 tk 5 = ys at *
          have hP1 : fr ≤ P1 c x fr ∧ P1 c x fr ≤ rm := by have := HRM.out; unfold P1; omega
          go_loopw [16, 19] (fun fv kv wr => ∃ (k f : Nat) (a : Int) (rg : Bool) (mem' : List Int) (s : YS) (n' F : Int) (O : Nat → Prop), k + f ≤ 60 ∧ kv = .int .i64 k ∧ fv = .int .i64 F ∧ Hid (F = if rg then P1 c x fr else -1) ∧ s.pc ≠ .done ∧ EvOk s.ev ∧ fr ≤ a ∧ a ≤ P1 c x fr ∧ LS c x fr 5 ts mem' s f a rg ∧ ScAt wr sx bm bs bl c s O ∧ (∀ q, O q → gs < q) ∧ StoreAt wr bs bl mem' n' ∧ Blk wr gs 3 (seenL rm a) ∧ Below w3.heap.size w8 wr) (fun _ kv _ => 400 - (intOf kv).toNat)
          case atStart => exact ⟨0, 60, fr, false, mem, ys, _, _, O9, by omega, rfl, rfl, rfl, hp0, he0, by omega, hP1.1, hinit, hsx, hO9, hs9, hg9, hb9⟩
          case round =>
            clear hinit hsx hs9 hg9 hb9 hm9 hp0 he0
            obtain ⟨k, f, a, rg, mem', s, n2, F, O, hkf, rfl, rfl, HF, hpc, hev, ha0, ha1, hL, hsc, hO, hst, hgk, hbk⟩ := hrel
            have hmk' := hm8.below hbk (Nat.le_refl _)
            have zk := hbk.size
            have hOB : ∀ q, O q → w3.heap.size ≤ q := fun q hq => by have := hO q hq; omega
            have D := scStep_any wr Hg.out.1 hsc hst hmk' (by omega) hOB hbs5 hbl5 hev
            obtain ⟨f', a', rg', hf', hL', hT⟩ := LS.step Hg.out.1 hv1 ⟨hf0, by rw [HRM.out]; omega⟩ HFIT.out hL hpc
            have hev' := scStep_ev c mem' s
            have hfin := scStep_fin (c := c) (mem := mem') hpc
            have HLA : Hid (s.pc = .last → a = P1 c x fr ∧ rg = decide (P1 c x fr < room c x)) := fun e => (hL.atLast e).2
            have HT : Hid _ := hT
            have HL : Hid _ := hL'
            have HE : Hid _ := hev'
            have HO : Hid (∀ q, O q → gs < q) := hO
            clear hT hL' hev' hO hOB hL hpc
            generalize scStep c mem' s = rr at *
            obtain ⟨mem2, s2⟩ := rr
            simp only at D hfin
            have hng : ¬ OwnB O bs bl gs := by
              rintro (e | e | e)
              · have := HO.out _ e; omega
              · exact hgsb.1 e
              · exact hgsb.2 e
            have hk400 : (k : Int) < 400 := by omega
            by_cases hlast : s.pc = .last
            · rw [decide_eq_true hlast] at hfin
              rw [hfin] at D
              have HD : Hid (s2.pc = .done) := yfin_iff.1 hfin
              have HLA2 : Hid _ := HLA.out hlast
              clear hlast hfin HLA
              go_wp2_with fail
              refine D.mono ?_; rintro e w10 ⟨rfl, hsc2, hs10, hc2⟩
              have hg10 := hc2.blk hgk hng
              have hb10 : Below w3.heap.size w8 w10 := hbk.trans (hc2.toBelow (by omega) (fun q hq e => by rcases e with e | e | e <;> first | (have := HO.out _ e; omega) | omega))
              go_wp2_with fail
              go_roundw
              case rel =>
                obtain ⟨hGd, hAd⟩ := LS.atDone HL.out HD.out
                obtain ⟨e1, e2⟩ := HLA2.out
                have hFe := HF.out
                subst e1 e2
                by_cases hlt : P1 c x fr < room c x
                · rw [decide_eq_true hlt, if_pos rfl] at hFe
                  have hlt' : P1 c x fr < rm := by rw [← HRM.out]; exact hlt
                  exact ⟨n + 1, F, mem2, tsN c x fr ts, _, by go_num, rfl, hb10, by rw [if_neg (by omega), hFe]; exact hg10, hs10, hGd, hAd, by omega, .inr ⟨by omega, by omega, by rw [hFe]; exact next_piece HFN.out hlt, tsN_len HTN.out hlt⟩⟩
                · rw [decide_eq_false hlt] at hFe
                  have hFe : F = -1 := by simpa using hFe
                  have hP : P1 c x fr = rm := by have := HRM.out; omega
                  exact ⟨n + 1, F, mem2, tsN c x fr ts, _, by go_num, rfl, hb10, by rw [if_pos hFe, ← hP]; exact hg10, hs10, hGd, hAd, by omega, .inl hFe⟩
              case measure => simp [intOf]; omega
            · rw [decide_eq_false hlast] at hfin
              rw [hfin] at D
              have HD : Hid (s2.pc ≠ .done) := fun e => by rw [e] at hfin; cases hfin
              clear hlast hfin HLA
              go_wp2_with fail
              refine D.mono ?_; rintro e w10 ⟨rfl, hsc2, hs10, hc2⟩
              have hg10 := hc2.blk hgk hng
              have hb10 : Below w3.heap.size w8 w10 := hbk.trans (hc2.toBelow (by omega) (fun q hq e => by rcases e with e | e | e <;> first | (have := HO.out _ e; omega) | omega))
              have E := scEvent_any w10 hsc2
              have z10 := hc2.size
              have hgs10 := hg10.lt
              have hgsr := hgk.lt
              have hO2 : ∀ q, Grow O wr w10 q → gs < q := by
                rintro q (e | e)
                · exact HO.out q e
                · omega
              generalize Grow O wr w10 = O2 at *
              clear D hbk hgk hst hsc hmk' hc2 hng HO
              have STEP : ∀ w11, Kept w10 w11 → Blk w11 gs 3 (seenL rm a) ∧ StoreAt w11 bs bl mem2 (cntIf s.pc.fin n2) ∧ ScAt w11 sx bm bs bl c s2 O2 ∧ Below w3.heap.size w8 w11 := fun w11 hk11 =>
                ⟨hk11.blk hg10, hs10.kept hk11, hsc2.kept hk11, hb10.trans (hk11.mono (show w3.heap.size ≤ w10.heap.size by omega))⟩
              have HST : Hid _ := STEP
              clear STEP hg10 hs10 hsc2 hb10
              have zz : w3.heap.size ≤ w10.heap.size := by omega
              rcases HT.out with ⟨h1, h2, h3, h4, h5, h6, h7⟩ | ⟨h1, h2, h3, h4, h5⟩ | ⟨h1, h2, h3, h4⟩
              · rw [h1, h2, h3] at E
                obtain ⟨ai, hai⟩ : ∃ ai : Nat, a = ai := ⟨a.toNat, by omega⟩
                subst hai
                have hai2 : (ai : Int) < rm := by omega
                have HA' : Hid (a' = (ai : Int) + 1) := h4
                have HRG : Hid (rg' = rg) := h7
                clear h1 h2 h3 h4 h7 HT
                go_wp2_with fail
                refine E.mono ?_; rintro e w11 ⟨rfl, hk11⟩
                obtain ⟨hg11, hs11, hsc3, hb11⟩ := HST.out _ hk11
                have hkA : Kept w11 (w11.alloc (.cells #[.int .i64 3, .int .i64 s2.ev.who, .int .i64 x, .int .i64 ai, .int .i64 s2.ev.c] 61)) := (Below.refl _ _).alloc (Nat.le_refl _) _
                have hgA := hg11.alloc (.cells #[.int .i64 3, .int .i64 s2.ev.who, .int .i64 x, .int .i64 ai, .int .i64 s2.ev.c] 61)
                have hsA := hs11.kept hkA
                have hxA := hsc3.kept hkA
                have hbA := hb11.trans (hkA.mono (show w3.heap.size ≤ w11.heap.size by have := hk11.size; omega))
                have hgc := hgA.cell ai
                have hgf := hgA.free ai
                rw [seenL_get (by omega), if_neg (by omega)] at hgc
                have hzA : w11.heap.size < (w11.alloc (.cells #[.int .i64 3, .int .i64 s2.ev.who, .int .i64 x, .int .i64 ai, .int .i64 s2.ev.c] 61)).heap.size := by simp
                have hzk := hk11.size
                clear E HST hg11 hs11 hsc3 hb11 hkA
                have yk : IntKind.i64.wrap ((k : Int) + 1) = k + 1 := wrap_small (by omega) (by omega)
                go_wp2_with fail
                have hcs : Chg (fun q => q = gs) _ (World.setCell _ ⟨gs, ai, none⟩ (.int .i64 1)) := (Chg.refl _ (w11.alloc (.cells #[.int .i64 3, .int .i64 s2.ev.who, .int .i64 x, .int .i64 ai, .int .i64 s2.ev.c] 61))).setCell _ _ (fun _ => rfl)
                go_roundw
                case rel =>
                  refine ⟨k + 1, f', a', rg', mem2, s2, _, F, O2, by omega, by go_num, rfl, by rw [HRG.out]; exact HF.out, HD.out, HE.out, by have := HA'.out; omega, by have := HA'.out; omega, HL.out, hxA.chg hcs (fun q hq e => by have := hO2 q hq; omega), hO2, hsA.chg hcs (Ne.symm hgsb.1) (Ne.symm hgsb.2), ?_, hbA.trans (hcs.toBelow (by omega) (fun q hq e => by omega))⟩
                  rw [HA'.out]
                  exact hgA.set' ai _ (seenL_add (by omega))
                case measure => simp [intOf]; omega
              · rw [h1, h2] at E
                have HA' : Hid (a' = a) := h3
                have HRG : Hid (rg' = true) := h5
                clear h1 h2 h3 h4 h5 HT
                go_wp2_with fail
                refine E.mono ?_; rintro e w11 ⟨rfl, hk11⟩
                obtain ⟨hg11, hs11, hsc3, hb11⟩ := HST.out _ hk11
                have hkA : Kept w11 (w11.alloc (.cells #[.int .i64 2, .int .i64 s2.ev.who, .int .i64 s2.ev.a, .int .i64 (P1 c x fr), .int .i64 s2.ev.c] 61)) := (Below.refl _ _).alloc (Nat.le_refl _) _
                have hgA := hkA.blk hg11
                have hsA := hs11.kept hkA
                have hxA := hsc3.kept hkA
                have hbA := hb11.trans (hkA.mono (show w3.heap.size ≤ w11.heap.size by have := hk11.size; omega))
                clear E HST hg11 hs11 hsc3 hb11 hkA
                have yk : IntKind.i64.wrap ((k : Int) + 1) = k + 1 := wrap_small (by omega) (by omega)
                go_wp2_with fail
                go_roundw
                case rel =>
                  exact ⟨k + 1, f', a', rg', mem2, s2, _, P1 c x fr, O2, by omega, by go_num, rfl, by rw [HRG.out]; rfl, HD.out, HE.out, by have := HA'.out; omega, by have := HA'.out; omega, HL.out, hxA, hO2, hsA, by rw [HA'.out]; exact hgA, hbA⟩
                case measure => simp [intOf]; omega
              · have hb2 : (s2.ev.k == 2) = false := by simpa using h1
                have hb3 : (s2.ev.k == 3) = false := by simpa using h2
                have HA' : Hid (a' = a) := h3
                have HRG : Hid (rg' = rg) := h4
                clear h1 h2 h3 h4 HT
                generalize hev : s2.ev = ev at *
                go_wp2_with fail
                refine E.mono ?_; rintro e w11 ⟨rfl, hk11⟩
                obtain ⟨hg11, hs11, hsc3, hb11⟩ := HST.out _ hk11
                have hkA : Kept w11 (w11.alloc (.cells #[.int .i64 ev.k, .int .i64 ev.who, .int .i64 ev.a, .int .i64 ev.b, .int .i64 ev.c] 61)) := (Below.refl _ _).alloc (Nat.le_refl _) _
                have hgA := hkA.blk hg11
                have hsA := hs11.kept hkA
                have hxA := hsc3.kept hkA
                have hbA := hb11.trans (hkA.mono (show w3.heap.size ≤ w11.heap.size by have := hk11.size; omega))
                clear E HST hg11 hs11 hsc3 hb11 hkA
                have yk : IntKind.i64.wrap ((k : Int) + 1) = k + 1 := wrap_small (by omega) (by omega)
                go_wp2_with fail
                go_roundw
                case rel =>
                  exact ⟨k + 1, f', a', rg', mem2, s2, _, F, O2, by omega, by go_num, rfl, by rw [HRG.out]; exact HF.out, HD.out, by rw [hev]; exact HE.out, by have := HA'.out; omega, by have := HA'.out; omega, HL.out, hxA, hO2, hsA, by rw [HA'.out]; exact hgA, hbA⟩
                case measure => simp [intOf]; omega

end Go.Proofs.YtapdpclgbpgklaaGreat
