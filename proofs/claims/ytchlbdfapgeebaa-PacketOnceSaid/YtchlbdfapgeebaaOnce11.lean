/- However the steps of three that put packets, take them and put them back come: the law's walk. -/
import Derived.Test.YtchlbdfapgeebaaOnce6
import Derived.Test.YtchlbdfapgeebaaOnce7
import Derived.Test.YtchlbdfapgeebaaAw11
import Derived.Test.YtchlbdfapgeebaaSm11
import Derived.Test.YtchlbdfapgeebaaReads
import Derived.Test.YtchlbdfapgeebaaRow
import Derived.Deep.CutRange
import Derived.Deep.OwnRows
namespace Go.Proofs.Ytchlbdfapgeebaa
open Go.RowKit

set_option maxRecDepth 8000 in
set_option maxHeartbeats 4800000 in
theorem once11_any (c : Cfg) (va : Value) (acts : List Int) (vp : Value) (pks : List Int) (w : World) (ha : Reads w va (acts.map (Value.int .u8))) (haz : ∀ z ∈ acts, 0 ≤ z ∧ z ≤ 255) (hp : Reads w vp (pks.map (Value.int .u8))) (hpz : ∀ z ∈ pks, 0 ≤ z ∧ z ≤ 255) :
    Calls Try.prog 3 #[.agg #[.int .i64 c.c0, .int .i64 c.c1, .int .i64 c.c2, .int .i64 c.c3, .int .i64 c.c4, .int .i64 c.mks, .int .i64 c.mus, .int .i64 c.dq, .int .i64 c.ch, .int .i64 c.bu, .int .i64 c.ro, .int .i64 c.sw], va, vp] w fun e w' => e = .returned (.bool true) ∧ Kept w w' := by
  obtain ⟨ao, acap, hva⟩ := ha.form
  rw [List.length_map] at hva
  subst hva
  obtain ⟨po, pcap, hvp⟩ := hp.form
  rw [List.length_map] at hvp
  subst hvp
  have HA : Hid (∀ W, Kept w W → Reads W (.slice ao acts.length acap) (acts.map (Value.int .u8))) := fun W k => ha.kept k
  have HP : Hid (∀ W, Kept w W → Reads W (.slice po pks.length pcap) (pks.map (Value.int .u8))) := fun W k => hp.kept k
  have HAZ : Hid (∀ z ∈ acts, 0 ≤ z ∧ z ≤ 255) := haz
  have HPZ : Hid (∀ z ∈ pks, 0 ≤ z ∧ z ≤ 255) := hpz
  clear ha haz hp hpz
  obtain ⟨al, hal⟩ : ∃ al, al = acts.length := ⟨_, rfl⟩
  obtain ⟨pl, hpl⟩ : ∃ pl, pl = pks.length := ⟨_, rfl⟩
  have HAL : Hid (al = acts.length) := hal
  have HPL : Hid (pl = pks.length) := hpl
  rw [← hal] at HA ⊢
  rw [← hpl] at HP ⊢
  clear hal hpl
  have hb := Blk.new w 24 [.int .i64 c.c0, .int .i64 c.c1, .int .i64 c.c2, .int .i64 c.c3, .int .i64 c.c4, .int .i64 c.mks, .int .i64 c.mus, .int .i64 c.dq, .int .i64 c.ch, .int .i64 c.bu, .int .i64 c.ro, .int .i64 c.sw]
  have hk0 : Kept w (w.alloc (.cells ([.int .i64 c.c0, .int .i64 c.c1, .int .i64 c.c2, .int .i64 c.c3, .int .i64 c.c4, .int .i64 c.mks, .int .i64 c.mus, .int .i64 c.dq, .int .i64 c.ch, .int .i64 c.bu, .int .i64 c.ro, .int .i64 c.sw] : List Value).toArray 24)) := (Below.refl _ _).alloc (Nat.le_refl _) _
  go_enter Try.func3, Try.ntmps3
  go_wp2_with fail
  generalize w.alloc (.cells ([.int .i64 c.c0, .int .i64 c.c1, .int .i64 c.c2, .int .i64 c.c3, .int .i64 c.c4, .int .i64 c.mks, .int .i64 c.mus, .int .i64 c.dq, .int .i64 c.ch, .int .i64 c.bu, .int .i64 c.ro, .int .i64 c.sw] : List Value).toArray 24) = w0 at *
  refine (awake11_any w0).mono ?_; rintro e w1 ⟨rfl, hk1⟩
  have hb1 := hk1.blk hb
  have hK1 : Kept w w1 := hk0.trans' hk1
  clear hb hk0 hk1 
  have c0 := hb1.cell 0
  have c1 := hb1.cell 1
  have c2 := hb1.cell 2
  have c3 := hb1.cell 3
  have c4 := hb1.cell 4
  have c5 := hb1.cell 5
  have c6 := hb1.cell 6
  have c7 := hb1.cell 7
  have c8 := hb1.cell 8
  have c9 := hb1.cell 9
  have c10 := hb1.cell 10
  have c11 := hb1.cell 11
  simp only [List.getElem?_cons_zero, List.getElem?_cons_succ] at c0 c1 c2 c3 c4 c5 c6 c7 c8 c9 c10 c11
  go_wp2_with fail
  refine (small11_any c w1).mono ?_; rintro e w2 ⟨⟨v, rfl, hv⟩, hk2⟩
  have HV : Hid (v = true → Good c ∧ Small c) := hv
  have hb2 := hk2.blk hb1
  have hK2 : Kept w w2 := hK1.trans' hk2
  clear hv hk2 hb1 hK1 c0 c1 c2 c3 c4 c5 c6 c7 c8 c9 c10 c11 
  cases v
  · go_wp2_with fail
    go_ret
    exact ⟨rfl, hK2⟩
  have hgs := HV.out rfl
  have Hg : Hid (Good c ∧ Small c) := hgs
  clear HV hgs
  cases h19 : ((al : Int) == 0)
  case true =>
    go_wp2_with fail
    go_ret
    exact ⟨rfl, hK2⟩
  by_cases h20 : (al : Int) > 40
  · go_wp2_with fail
    go_ret
    exact ⟨rfl, hK2⟩
  by_cases h21 : (pl : Int) > 400
  · go_wp2_with fail
    go_ret
    exact ⟨rfl, hK2⟩
  have hal0 : 0 < al := by
    have : ¬ (al : Int) = 0 := by simpa using h19
    omega
  have hal40 : al ≤ 40 := by omega
  have hpl400 : pl ≤ 400 := by omega
  have q0 := hb2.cell 0
  have q1 := hb2.cell 1
  have q2 := hb2.cell 2
  have q3 := hb2.cell 3
  have q4 := hb2.cell 4
  have q5 := hb2.cell 5
  have q6 := hb2.cell 6
  have q7 := hb2.cell 7
  have q8 := hb2.cell 8
  have q9 := hb2.cell 9
  have q10 := hb2.cell 10
  have q11 := hb2.cell 11
  simp only [List.getElem?_cons_zero, List.getElem?_cons_succ] at q0 q1 q2 q3 q4 q5 q6 q7 q8 q9 q10 q11
  go_wp2_with fail
  clear h19 h20 h21
  refine (new_good c w2 Hg.out.1).mono ?_; rintro e w3 ⟨bm, rfl, hm3, hk3⟩
  have hK3 : Kept w w3 := hK2.trans' hk3
  have hbm3 : bm < w3.heap.size := hm3.cells.1
  clear q0 q1 q2 q3 q4 q5 q6 q7 q8 q9 q10 q11 hb2 hk3 hK2
  go_wp2_with fail
  refine (first_any w3 hm3 Hg.out.1 (Nat.le_refl _)).mono ?_; rintro e w4 ⟨v4, rfl, hr4, hk4⟩
  obtain ⟨fl0, fl1, fall⟩ := first_facts Hg.out.1
  have HF : Hid (∀ x ∈ firstL c, U x) := fall
  go_wp2_with fail
  refine (new_any w4 hr4 fl0 fl1 fall).mono ?_; rintro e w5 ⟨bs, bl, rfl, hs5, hbs5, hbl5, hk5⟩
  have hk35 : Kept w3 w5 := hk4.trans' hk5
  have hBs : w3.heap.size ≤ bs := Nat.le_trans hk4.size hbs5
  have hBl : w3.heap.size ≤ bl := Nat.le_trans hk4.size hbl5
  clear hr4 hk4 hk5 hbs5 hbl5 fl0 fl1 fall
  obtain ⟨q0, hq0⟩ : ∃ q0, q0 = w5.heap.size := ⟨_, rfl⟩
  have mk1 : (Instr.makeSlice 36 (.int .i64 3) (.int .i64 3)).run Try.prog w5 = .ok (.slice (some ⟨w5.heap.size, 0, none⟩) 3 3) (w5.alloc (.cells (list3 fun _ => .pointer none).toArray 38)) := by kernel_rfl
  have k6 : Kept w5 (w5.alloc (.cells (list3 fun _ => .pointer none).toArray 38)) := (Below.refl _ _).alloc (Nat.le_refl _) _
  have b6 : Blk (w5.alloc (.cells (list3 fun _ => .pointer none).toArray 38)) w5.heap.size 38 (list3 fun _ => .pointer none) := Blk.new _ _ _
  generalize w5.alloc (.cells (list3 fun _ => .pointer none).toArray 38) = w6 at *
  rw [← hq0] at mk1 b6
  obtain ⟨q1, hq1⟩ : ∃ q1, q1 = w6.heap.size := ⟨_, rfl⟩
  have mk2 : (Instr.makeSlice 37 (.int .i64 3) (.int .i64 3)).run Try.prog w6 = .ok (.slice (some ⟨w6.heap.size, 0, none⟩) 3 3) (w6.alloc (.cells (list3 fun _ => .int .i64 0).toArray 3)) := by kernel_rfl
  have k7 : Kept w6 (w6.alloc (.cells (list3 fun _ => .int .i64 0).toArray 3)) := (Below.refl _ _).alloc (Nat.le_refl _) _
  have b7 : Blk (w6.alloc (.cells (list3 fun _ => .int .i64 0).toArray 3)) w6.heap.size 3 (list3 fun _ => .int .i64 0) := Blk.new _ _ _
  generalize w6.alloc (.cells (list3 fun _ => .int .i64 0).toArray 3) = w7 at *
  rw [← hq1] at mk2 b7
  obtain ⟨q2, hq2⟩ : ∃ q2, q2 = w7.heap.size := ⟨_, rfl⟩
  have mk3 : (Instr.makeSlice 37 (.int .i64 3) (.int .i64 3)).run Try.prog w7 = .ok (.slice (some ⟨w7.heap.size, 0, none⟩) 3 3) (w7.alloc (.cells (list3 fun _ => .int .i64 0).toArray 3)) := by kernel_rfl
  have k8 : Kept w7 (w7.alloc (.cells (list3 fun _ => .int .i64 0).toArray 3)) := (Below.refl _ _).alloc (Nat.le_refl _) _
  have b8 : Blk (w7.alloc (.cells (list3 fun _ => .int .i64 0).toArray 3)) w7.heap.size 3 (list3 fun _ => .int .i64 0) := Blk.new _ _ _
  generalize w7.alloc (.cells (list3 fun _ => .int .i64 0).toArray 3) = w8 at *
  rw [← hq2] at mk3 b8
  obtain ⟨q3, hq3⟩ : ∃ q3, q3 = w8.heap.size := ⟨_, rfl⟩
  have mk4 := run_make_row' (P := Try.prog) 37 3 (.int .i64 0) 8 Try.underlying37 info_int rfl .i64 .i64 400 (by omega) (by omega) w8
  have hO : madeCells #[Value.int .i64 0] 400 = ((List.replicate 400 (0 : Int)).map (Value.int .i64)).toArray := by
    rw [← Array.toList_inj, toList_madeCells_one, List.map_replicate]
  rw [hO, show ((400 : Nat) : Int) = 400 from rfl] at mk4
  clear hO
  have k9 : Kept w8 (w8.alloc (.cells ((List.replicate 400 (0 : Int)).map (Value.int .i64)).toArray 3)) := (Below.refl _ _).alloc (Nat.le_refl _) _
  have b9 : Blk (w8.alloc (.cells ((List.replicate 400 (0 : Int)).map (Value.int .i64)).toArray 3)) w8.heap.size 3 ((List.replicate 400 (0 : Int)).map (Value.int .i64)) := Blk.new _ _ _
  generalize w8.alloc (.cells ((List.replicate 400 (0 : Int)).map (Value.int .i64)).toArray 3) = w9 at *
  rw [← hq3] at mk4 b9
  have HW : Hid (WO w3 bm bs bl q0 q1 q2 q3 w9 (og0 c).mem (og0 c).seen (og0 c).act (fun _ => 0) (fun _ _ => False)) := by
    have z0 := hk35.size
    have z1 := b6.lt
    have z2 := b7.lt
    have z3 := b8.lt
    have z4 := b9.lt
    obtain ⟨s1, s2⟩ := hs5.lt
    have z6 := k6.size
    have z7 := k7.size
    have z8 := k8.size
    refine ⟨((hk35.trans' k6).trans' (k7.trans' k8)).trans' k9, ⟨_, (((hs5.kept k6).kept k7).kept k8).kept k9⟩, ⟨hBs, hBl, hbm3⟩, ⟨⟨by omega, by omega, by omega, by omega⟩, ⟨Nat.ne_of_lt (by omega), Nat.ne_of_lt (by omega), Nat.ne_of_lt (by omega), Nat.ne_of_lt (by omega), Nat.ne_of_lt (by omega), Nat.ne_of_lt (by omega)⟩, ⟨Nat.ne_of_gt (by omega), Nat.ne_of_gt (by omega), Nat.ne_of_gt (by omega), Nat.ne_of_gt (by omega)⟩, Nat.ne_of_gt (by omega), Nat.ne_of_gt (by omega), Nat.ne_of_gt (by omega), Nat.ne_of_gt (by omega)⟩, k9.blk (k8.blk (k7.blk b6)), k9.blk (k8.blk b7), k9.blk b8, b9, fun k _ pm e => (by cases e), fun k _ q e => e.elim, fun k j _ _ _ q e => e.elim⟩
  clear hk35 hBs hBl hbm3 hs5 k6 b6 k7 b7 k8 b8 k9 b9 hq0 hq1 hq2 hq3
  have HM : Hid (MapAt w3 w3.heap.size bm c) := hm3
  clear hm3
  go_wp2_with fail
  clear mk1 mk2 mk3 mk4
  have w90 : IntKind.i64.wrap ((pl : Int) + 90) = (pl : Int) + 90 := IntWalk.i64_in _ (by omega)
  go_loopg [15, 16, 18] (pl + 90) (fun gk pv nv iv wr => ∃ (i : Nat) (g : OG) (P S : List Int) (own : Nat → List Int) (bk : Nat → Nat) (O : Nat → Nat → Prop), i ≤ pl + 90 ∧ gk = pl + 90 - i ∧ iv = .int .i64 i ∧ pv = .int .i64 g.put ∧ nv = .int .i64 g.n ∧ WO w3 bm bs bl q0 q1 q2 q3 wr g.mem g.seen g.act bk O ∧ OInv c i g P S own ∧ g.n ≤ i ∧ (pl ≤ i → FInv (uO pl i) g))
  case atStart => exact ⟨0, og0 c, [], _, fun _ => [], _, _, by omega, by omega, rfl, rfl, rfl, HW.out, OInv.init Hg.out.1 HF.out, Int.le_refl _, fun h => FInv.start (fun k hk => by have e : pl = 0 := (by omega); rw [e]; exact uO_start 0 k)⟩
  case round =>
    clear HW
    obtain ⟨i, g, P, S, own, bk, O, hi, rfl, rfl, rfl, rfl, hW, hO, hn, hF⟩ := hrel
    have HI : Hid (OInv c i g P S own) := hO
    have HFI : Hid (pl ≤ i → FInv (uO pl i) g) := hF
    have hKr : Kept w wr := hK3.trans' hW.k
    have hn0 := hO.n0
    have hpu0 := hO.putge
    have hput := hO.putlt (by omega)
    clear hO hF
    by_cases hlt : (i : Int) < (pl : Int) + 90
    · have hi0 : (0 : Int) ≤ i := by omega
      go_upto_if 71 with fail
      go_cut [19] from 68 to 77 (fun kv wx => ∃ k : Nat, k < 3 ∧ kv = .int .i64 k ∧ (pl ≤ i → k = i % 3) ∧ wx = wr)
      case first =>
        by_cases hpi : (i : Int) < (pl : Int)
        · have hiL : i < (pks.map (Value.int .u8)).length := by have := HPL.out; rw [List.length_map]; omega
          obtain ⟨ad, cap, e, _, hck⟩ := (HP.out wr hKr).get hiL
          simp only [Value.slice.injEq] at e
          obtain ⟨he, e2, e3⟩ := e
          clear e2 e3
          have hiL' : i < pks.length := by rw [List.length_map] at hiL; exact hiL
          rw [List.getElem?_map, List.getElem?_eq_getElem hiL', Option.map_some] at hck
          obtain ⟨hz0, hz1⟩ := HPZ.out pks[i] (List.getElem_mem _)
          generalize pks[i] = z at *
          clear hiL hiL'
          go_wp2_with fail
          go_meet
          case rel => exact ⟨(z % 3).toNat, by omega, by go_num, fun h => by omega, rfl⟩
        · go_wp2_with fail
          go_meet
          case rel => exact ⟨i % 3, by omega, by go_num, fun _ => rfl, rfl⟩
      case rest =>
        obtain ⟨k, hk, rfl, hki, rfl⟩ := hcut
        have hk0 : (0 : Int) ≤ k := by omega
        have hk3 : (k : Int) < 3 := by omega
        have cW := hW.cellW hk
        go_upto_region 21 with fail
        go_cut [82] from 78 to 82 (fun bv wx => bv = .bool ((g.act k).job.isNone) ∧ wx = wc)
        case first =>
          unfold jobV at cW
          cases hj : (g.act k).job with
          | none =>
            rw [hj] at cW
            go_wp2_with fail
            go_meet
            case rel => exact ⟨by rw [hj]; rfl, rfl⟩
          | some pm =>
            rw [hj] at cW
            go_wp2_with fail
            go_meet
            case rel => exact ⟨by rw [hj]; rfl, rfl⟩
        case rest =>
          obtain ⟨rfl, rfl⟩ := hcut
          go_upto_if 82 with fail
          go_cut [15, 16] from 82 to 142 (fun pv nv wx => ∃ (g1 : OG) (bk1 : Nat → Nat) (O1 : Nat → Nat → Prop) (pm : PM), pv = .int .i64 g1.put ∧ nv = .int .i64 g1.n ∧ (g1.act k).job = some pm ∧ WO w3 bm bs bl q0 q1 q2 q3 wx g1.mem g1.seen g1.act bk1 O1 ∧ OInv c i g1 P S own ∧ g1.n ≤ i + 1 ∧ (pl ≤ i → FInv (uO pl i) g1))
          case first =>
            clear cW
            cases hj : (g.act k).job with
            | some pm =>
              simp only [Option.isNone_some]
              go_wp2_with fail
              go_meet
              case rel => exact ⟨g, bk, O, pm, rfl, rfl, hj, hW, HI.out, by omega, HFI.out⟩
            | none =>
              simp only [Option.isNone_none]
              have HJ : Hid ((g.act k).job = none) := hj
              clear hj
              by_cases hpi : (i : Int) < (pl : Int)
              · have hpl' : ¬ pl ≤ i := by omega
                have cK := hW.cellK hk
                have fK := hW.kd.free k
                have cH := hW.cellH hk
                have wn : IntKind.i64.wrap (g.n + 1) = g.n + 1 := IntWalk.i64_in _ (by omega)
                by_cases hh : (g.act k).has > 0
                · have HQ : Hid (1 ≤ (g.act k).has ∧ (g.act k).has ≤ manyI c) := HI.out.hasRng hk HJ.out hh
                  have hWk := hW.setK hk 2
                  have hmk : MapAt _ w3.heap.size bm c := HM.out.below hWk.k (Nat.le_refl _)
                  obtain ⟨nk, hsk⟩ := hWk.st
                  have cH2 := hWk.cellH hk
                  simp only [upd_same] at cH2
                  go_wp2_with fail
                  refine (backO _ _ Hg.out.1 hsk hmk hWk.k.size hWk.bo.1 hWk.bo.2.1 HQ.out).mono ?_; rintro e w2 ⟨b, rfl, hx, hk2⟩
                  have cW2 := (hWk.kept hk2).cellW hk
                  have fW2 := (hWk.kept hk2).wk.free k
                  clear cK fK cH cH2 hsk hmk
                  go_wp2_with fail
                  go_meet
                  case rel =>
                    have hB := HI.out.begin Hg.out.1 acts hk HJ.out
                    rw [oBegin_back hh] at hB
                    exact ⟨{ g with n := g.n + 1, act := upd g.act k ⟨some (back0 c (g.act k).has), 2, (g.act k).has⟩ }, _, _, back0 c (g.act k).has, rfl, rfl, by simp only [upd_same], hW.begun hk 2 (Below.refl _ _) hk2 hx, hB, by show g.n + 1 ≤ _; omega, fun h => absurd h hpl'⟩
                · have hm0 : 0 ≤ (g.n + 1) % (al : Int) := Int.emod_nonneg _ (by omega)
                  have hm1 : (g.n + 1) % (al : Int) < al := Int.emod_lt_of_pos _ (by omega)
                  obtain ⟨j, hjm⟩ : ∃ j : Nat, (g.n + 1) % (al : Int) = j := ⟨((g.n + 1) % (al : Int)).toNat, by omega⟩
                  rw [hjm] at hm0 hm1
                  have hjL : j < (acts.map (Value.int .u8)).length := by have := HAL.out; rw [List.length_map]; omega
                  obtain ⟨ad, cap, e, _, hck⟩ := (HA.out _ (hK3.trans' hW.k)).get hjL
                  simp only [Value.slice.injEq] at e
                  obtain ⟨he, e2, e3⟩ := e
                  clear e2 e3
                  have hjL' : j < acts.length := by rw [List.length_map] at hjL; exact hjL
                  rw [List.getElem?_map, List.getElem?_eq_getElem hjL', Option.map_some] at hck
                  obtain ⟨hz0, hz1⟩ := HAZ.out acts[j] (List.getElem_mem _)
                  have HZ : Hid (acts[((g.n + 1) % (acts.length : Int)).toNat]?.getD 0 = acts[j]) := by
                    show _ = _
                    rw [← HAL.out, hjm, Int.toNat_natCast, List.getElem?_eq_getElem hjL', Option.getD_some]
                  generalize acts[j] = z at *
                  clear hjL hjL'
                  cases hz2 : (z % 2 == 0) with
                  | false =>
                    have hWk := hW.setK hk 1
                    have hmk : MapAt _ w3.heap.size bm c := HM.out.below hWk.k (Nat.le_refl _)
                    obtain ⟨nk, hsk⟩ := hWk.st
                    go_wp2_with fail
                    refine (takeO _ hsk hmk hWk.k.size hWk.bo.1 hWk.bo.2.1).mono ?_; rintro e w2 ⟨b, rfl, hx, hk2⟩
                    have cW2 := (hWk.kept hk2).cellW hk
                    have fW2 := (hWk.kept hk2).wk.free k
                    clear cK fK cH hck hsk hmk
                    go_wp2_with fail
                    try simp only [← he]
                    go_meet
                    case rel =>
                      have hB := HI.out.begin Hg.out.1 acts hk HJ.out
                      rw [oBegin_take (by omega) (by rw [HZ.out]; intro h; have := h.1; simp [this] at hz2)] at hB
                      exact ⟨{ g with n := g.n + 1, act := upd g.act k ⟨some take0, 1, (g.act k).has⟩ }, _, _, take0, rfl, rfl, by simp only [upd_same], hW.begun hk 1 (Below.refl _ _) hk2 hx, hB, by show g.n + 1 ≤ _; omega, fun h => absurd h hpl'⟩
                  | true =>
                    by_cases hpm : g.put < manyI c - 3
                    · have hWk := hW.setK hk 0
                      have hmk : MapAt _ w3.heap.size bm c := HM.out.below hWk.k (Nat.le_refl _)
                      have hmw : MapAt _ w3.heap.size bm c := HM.out.below hW.k (Nat.le_refl _)
                      obtain ⟨nk, hsk⟩ := hWk.st
                      obtain ⟨mb0, mb1⟩ := manyI_bound Hg.out.1
                      have wm : IntKind.i64.wrap (manyI c - 3) = manyI c - 3 := IntWalk.i64_in _ (by omega)
                      have wp : IntKind.i64.wrap (g.put + 1) = g.put + 1 := IntWalk.i64_in _ (by omega)
                      go_wp2_with fail
                      refine (mPackets_any _ hmw).mono ?_; rintro e wx ⟨rfl, rfl⟩
                      go_wp2_with fail
                      have hka : Kept (wc.setCell ⟨q1, k, none⟩ (.int .i64 0)) ((wc.setCell ⟨q1, k, none⟩ (.int .i64 0)).alloc (.cells #[.int .u64 (g.put + 1)] 42)) := (Below.refl _ _).alloc (Nat.le_refl _) _
                      have hbx : Blk ((wc.setCell ⟨q1, k, none⟩ (.int .i64 0)).alloc (.cells #[.int .u64 (g.put + 1)] 42)) (wc.setCell ⟨q1, k, none⟩ (.int .i64 0)).heap.size 42 [.int .u64 (g.put + 1)] := Blk.new _ _ _
                      rw [show (wc.setCell ⟨q1, k, none⟩ (.int .i64 0)).heap.size = wc.heap.size from by simp] at hbx
                      refine (putO (g.put + 1) ⟨wc.heap.size, 0, none⟩ 1 _ (hsk.kept hka) (HM.out.below (hWk.k.trans' hka) (Nat.le_refl _)) (hWk.k.trans' hka).size (by unfold U; omega) (Nat.le_refl _) (hbx.cell 0)).mono ?_; rintro e w2 ⟨b, rfl, hx, hk2⟩
                      have cW2 := ((hWk.kept hka).kept hk2).cellW hk
                      have fW2 := ((hWk.kept hka).kept hk2).wk.free k
                      clear cK fK cH hck hsk hmk hmw hbx
                      go_wp2_with fail
                      try simp only [← he]
                      go_meet
                      case rel =>
                        have hB := HI.out.begin Hg.out.1 acts hk HJ.out
                        rw [oBegin_put (by omega) ⟨by rw [HZ.out]; simpa using hz2, hpm⟩] at hB
                        exact ⟨{ g with n := g.n + 1, put := g.put + 1, act := upd g.act k ⟨some (put0 [g.put + 1]), 0, (g.act k).has⟩ }, _, _, put0 [g.put + 1], rfl, rfl, by simp only [upd_same], hW.begun hk 0 hka hk2 hx, hB, by show g.n + 1 ≤ _; omega, fun h => absurd h hpl'⟩
                    · skip
                      have hWk := hW.setK hk 1
                      have hmk : MapAt _ w3.heap.size bm c := HM.out.below hWk.k (Nat.le_refl _)
                      obtain ⟨nk, hsk⟩ := hWk.st
                      obtain ⟨mb0, mb1⟩ := manyI_bound Hg.out.1
                      have hmw : MapAt _ w3.heap.size bm c := HM.out.below hW.k (Nat.le_refl _)
                      have wm : IntKind.i64.wrap (manyI c - 3) = manyI c - 3 := IntWalk.i64_in _ (by omega)
                      go_wp2_with fail
                      refine (mPackets_any _ hmw).mono ?_; rintro e wx ⟨rfl, rfl⟩
                      go_wp2_with fail
                      refine (takeO _ hsk hmk hWk.k.size hWk.bo.1 hWk.bo.2.1).mono ?_; rintro e w2 ⟨b, rfl, hx, hk2⟩
                      have cW2 := (hWk.kept hk2).cellW hk
                      have fW2 := (hWk.kept hk2).wk.free k
                      clear cK fK cH hck hsk hmk
                      go_wp2_with fail
                      try simp only [← he]
                      go_meet
                      case rel =>
                        have hB := HI.out.begin Hg.out.1 acts hk HJ.out
                        rw [oBegin_take (by omega) (by rw [HZ.out]; intro h; have := h.2; omega)] at hB
                        exact ⟨{ g with n := g.n + 1, act := upd g.act k ⟨some take0, 1, (g.act k).has⟩ }, _, _, take0, rfl, rfl, by simp only [upd_same], hW.begun hk 1 (Below.refl _ _) hk2 hx, hB, by show g.n + 1 ≤ _; omega, fun h => absurd h hpl'⟩
              · go_wp2_with fail
                have hL : pl ≤ i := by omega
                go_roundg (pl + 90 - (i + 1))
                case measure => omega
                case rel => exact ⟨i + 1, g, P, S, own, bk, O, by omega, rfl, by go_num, rfl, rfl, hW, HI.out.later (by omega), by omega, fun _ => by have := FInv.next Hg.out.1 HI.out (HFI.out hL) hL (hki hL); rw [oTurn_nil HJ.out] at this; exact this⟩
          case rest =>
            obtain ⟨g1, bk1, O1, pm, rfl, rfl, hj, hW1, hO1, hn1, hF1⟩ := hcut
            clear hW HI HFI
            have HJ : Hid ((g1.act k).job = some pm) := hj
            have cW := hW1.cellW hk
            rw [jobV_some hj] at cW
            obtain ⟨n1', hs1⟩ := hW1.st
            have hX := hW1.x k hk pm hj
            have hmr : MapAt wc w3.heap.size bm c := HM.out.below hW1.k (Nat.le_refl _)
            have D := hX.step Hg.out.1 hs1 hmr
            have hpu1 := hO1.putge
            have hput1 := hO1.putlt (by omega)
            clear hj hX
            go_wp2_with fail
            refine D.mono ?_; rintro e w1 ⟨rfl, hx, ⟨n2, hs2⟩, hc⟩
            clear D
            obtain ⟨P', S', own', hO2, hchk⟩ := hO1.turn Hg.out.1 (by omega) hk HJ.out hs2.all
            have hW2 := hW1.step hk HJ.out hx hs2 hc
            have HF2 : Hid (pl ≤ i + 1 → FInv (uO pl (i + 1)) (oTurn c k g1)) := fun h => by
              by_cases hL : pl ≤ i
              · exact FInv.next Hg.out.1 hO1 (hF1 hL) hL (hki hL)
              · have e : pl = i + 1 := by omega
                rw [e]; exact FInv.start (fun _ _ => uO_start _ _)
            have HO1 : Hid (OInv c i g1 P S own) := hO1
            have HO2 : Hid (OInv c (i + 1) (oTurn c k g1) P' S' own') := hO2
            have HCH : Hid _ := hchk
            have hkd := (hO1.own k hk).1
            clear hO1 hO2 hF1 hchk hs1 hc cW hmr hW1
            cases hf : (pmStep c g1.mem pm).2.pc.fin with
            | false =>
              go_wp2_with fail
              go_roundg (pl + 90 - (i + 1))
              case measure => omega
              case rel => exact ⟨i + 1, oTurn c k g1, P', S', own', _, _, by omega, rfl, by go_num, by rw [oTurn_put], by rw [oTurn_n], by rw [oTurn_more HJ.out hf]; exact hW2, HO2.out.later (by omega), by rw [oTurn_n]; omega, HF2.out⟩
            | true =>
              have cW := hW2.cellW hk
              rw [jobV_some (pm := (pmStep c g1.mem pm).2) (by simp only [upd_same])] at cW
              go_wp2_with fail
              refine hx.pack.mono ?_; rintro e wx ⟨rfl, rfl⟩
              rw [show (pmStep c g1.mem pm).2.packet = (pmStep c g1.mem pm).2.p from by unfold PM.packet; rw [hf]; rfl]
              have HFI : Hid ((pmStep c g1.mem pm).2.pc.fin = true) := hf
              clear hf hx
              have cK := hW2.cellK hk
              have cH := hW2.cellH hk
              have fH := hW2.hs.free k
              have fW := hW2.wk.free k
              simp only [upd_same] at cK cH
              rcases hkd with hkd | hkd | hkd
              · rw [hkd] at cK
                go_wp2_with fail
                go_roundg (pl + 90 - (i + 1))
                case measure => omega
                case rel => exact ⟨i + 1, oTurn c k g1, P', S', own', _, _, by omega, rfl, by go_num, by rw [oTurn_put], by rw [oTurn_n], by rw [oTurn_none HJ.out HFI.out (by omega) (fun h => by have := h.1; omega)]; exact hW2.done (a := { g1.act k with job := some (pmStep c g1.mem pm).2 }) hk rfl, HO2.out.later (by omega), by rw [oTurn_n]; omega, HF2.out⟩
              · rw [hkd] at cK
                by_cases hp0 : (pmStep c g1.mem pm).2.p > 0
                · obtain ⟨y1, y2, y3⟩ := HCH.out HFI.out hkd hp0
                  unfold taskO at y1 y2
                  have HP0 : Hid (0 < (pmStep c g1.mem pm).2.p) := hp0
                  have hm2 : MapAt w1 w3.heap.size bm c := HM.out.below hW2.k (Nat.le_refl _)
                  obtain ⟨tn, htn⟩ : ∃ tn : Nat, mget (pmStep c g1.mem pm).1 (pTask c (pmStep c g1.mem pm).2.p 0) = tn := ⟨(mget (pmStep c g1.mem pm).1 (pTask c (pmStep c g1.mem pm).2.p 0)).toNat, by omega⟩
                  have HTN : Hid (taskO c (pmStep c g1.mem pm).1 (pmStep c g1.mem pm).2.p = tn) := htn
                  rw [htn] at y1 y2
                  go_wp2_with fail
                  refine (mTask_any _ 0 _ hm2 Hg.out.1).mono ?_; rintro e wx ⟨rfl, rfl⟩
                  go_wp2_with fail
                  refine (load_any _ _ hs2).mono ?_; rintro e w6 ⟨rfl, hs6, hc6⟩
                  rw [htn]
                  have hW6 := hW2.memo hs6 hc6.memB
                  have hm6 : MapAt w6 w3.heap.size bm c := HM.out.below hW6.k (Nat.le_refl _)
                  clear hm2 hs2 hc6 cW cK cH fH fW htn
                  have z1 : ¬ (tn : Int) < 1 := by omega
                  have z2 : ¬ (tn : Int) > g1.put := by omega
                  go_wp2_with fail
                  refine (mMany_any _ _ hm6 Hg.out.1).mono ?_; rintro e wx ⟨rfl, rfl⟩
                  go_wp2_with fail
                  refine (load_any _ _ hs6).mono ?_; rintro e w7 ⟨rfl, hs7, hc7⟩
                  rw [y3]
                  have hW7 := hW6.memo hs7 hc7.memB
                  have cS := hW7.cellS (t := tn) (by rw [HO1.out.seenl]; omega)
                  have fS := hW7.sn.free tn
                  obtain ⟨b0, b1⟩ := HO1.out.seenB hput1 (t := tn) (by omega) (by omega)
                  have hW8 := hW7.setS tn ((g1.seen[tn]?.getD 0) + 1)
                  have fH8 := hW8.hs.free k
                  have cH8 := hW8.cellH hk
                  have hW9 := hW8.told hk (pmStep c g1.mem pm).2.p rfl
                  have cW9 := hW9.cellW hk
                  have fW9 := hW9.wk.free k
                  generalize hsv : g1.seen[tn]?.getD 0 = sv at cS b0 b1 hW8 fH8 cH8 hW9 cW9 fW9
                  have HSV : Hid (g1.seen[tn]?.getD 0 = sv) := hsv
                  have ws : IntKind.i64.wrap (sv + 1) = sv + 1 := IntWalk.i64_in _ (by omega)
                  clear hsv hs6 hm6 hc7 hs7 y3
                  go_wp2_with fail
                  go_roundg (pl + 90 - (i + 1))
                  case measure => omega
                  case rel => exact ⟨i + 1, oTurn c k g1, P', S', own', _, _, by omega, rfl, by go_num, by rw [oTurn_put], by rw [oTurn_n], by rw [oTurn_got HJ.out HFI.out hkd HP0.out, HTN.out, Int.toNat_natCast, HSV.out]; exact (hW9.done hk rfl).cast (by simp only [hkd]), HO2.out.later (by omega), by rw [oTurn_n]; omega, HF2.out⟩
                · go_wp2_with fail
                  go_roundg (pl + 90 - (i + 1))
                  case measure => omega
                  case rel => exact ⟨i + 1, oTurn c k g1, P', S', own', _, _, by omega, rfl, by go_num, by rw [oTurn_put], by rw [oTurn_n], by rw [oTurn_none HJ.out HFI.out (by omega) (fun h => by have := h.2; omega)]; exact hW2.done (a := { g1.act k with job := some (pmStep c g1.mem pm).2 }) hk rfl, HO2.out.later (by omega), by rw [oTurn_n]; omega, HF2.out⟩
              · rw [hkd] at cK
                have hW3 := hW2.told hk 0 rfl
                have cK3 := hW3.cellK hk
                have cW3 := hW3.cellW hk
                have fW3 := hW3.wk.free k
                simp only [upd_same, hkd] at cK3
                clear fW cW
                go_wp2_with fail
                go_roundg (pl + 90 - (i + 1))
                case measure => omega
                case rel => exact ⟨i + 1, oTurn c k g1, P', S', own', _, _, by omega, rfl, by go_num, by rw [oTurn_put], by rw [oTurn_n], by rw [oTurn_back HJ.out HFI.out hkd]; exact (hW3.done hk rfl).cast (by simp only [hkd]), HO2.out.later (by omega), by rw [oTurn_n]; omega, HF2.out⟩
    · obtain rfl : i = pl + 90 := by omega
      have hjn : ∀ k, k < 3 → (g.act k).job = none := fun k hk => (HFI.out (by omega)).over hk (by rw [uO_end _ _ hk]; omega)
      obtain ⟨T, hT⟩ : ∃ T, heldL c g.mem = T := ⟨_, rfl⟩
      have hTP := (HI.out.held Hg.out.1).symm.trans hT
      have HOV : Hid (∀ t : Nat, 1 ≤ t → t < 400 → (g.seen[t]?.getD 0) + ((List.count (t : Int) T : Nat) : Int) = if (t : Int) ≤ g.put then 1 else 0) := fun t t0 t1 => by rw [← hTP]; exact HI.out.over hjn t0 t1
      have HTR : Hid (∀ x ∈ T, 1 ≤ x ∧ x ≤ g.put) := fun x hx => by
        rw [← hTP] at hx
        obtain ⟨p, hp, rfl⟩ := List.mem_map.1 hx
        exact HI.out.rngP p hp
      have HSB : Hid (∀ t : Nat, 1 ≤ t → t < 400 → -400 ≤ g.seen[t]?.getD 0 ∧ g.seen[t]?.getD 0 ≤ 1) := fun t t0 t1 => HI.out.seenB hput t0 t1
      have hsl := HI.out.seenl
      have hTl : T.length ≤ 400 := by rw [← hTP, List.length_map]; have := HI.out.num; omega
      obtain ⟨pn, hpn⟩ : ∃ pn : Nat, g.put = (pn : Int) := ⟨g.put.toNat, by omega⟩
      obtain ⟨n0, hsr⟩ := hW.st
      have hmr : MapAt wr w3.heap.size bm c := HM.out.below hW.k (Nat.le_refl _)
      clear hjn hTP
      go_wp2_with fail
      refine (mAll_any wr hsr).mono ?_; rintro e w7 ⟨rfl, hb7, hk7⟩
      have hr7 : Row w7 (.slice (some ⟨wr.heap.size, 0, none⟩) g.mem.length g.mem.length) (g.mem.map (Value.int .u64)) := by
        have := hb7.row (by have := hsr.le; simp; unfold maxLen; omega)
        simpa using this
      have hm7 : MapAt w7 w3.heap.size bm c := HM.out.below (hW.k.trans' hk7) (Nat.le_refl _)
      go_wp2_with fail
      refine (held_any w7 Hg.out.1 hm7 (hW.k.trans' hk7).size hr7 hsr.pos hsr.le hsr.all).mono ?_; rintro e w8 ⟨v8, rfl, own8, hk8⟩
      rw [hT] at own8
      obtain ⟨L, hL⟩ : ∃ L : Nat, L = T.length := ⟨_, rfl⟩
      rw [← hL] at own8
      obtain ⟨a8, c8, rfl⟩ := own_slice own8
      have hKr8 : Kept w w8 := (hKr.trans' hk7).trans' hk8
      have hb8 := hk8.blk (hk7.blk hW.sn)
      have hq7 : q3 < w7.heap.size := (hk7.blk hW.sn).lt
      have hq3w : w.heap.size ≤ q3 := by have := hK3.size; have := hW.lay.1.2.2.2; omega
      have HLL : Hid (L = T.length) := hL
      have hL400 : L ≤ 400 := by omega
      have HHS : Hid (g.seen.length = 400) := hsl
      clear hb7 hr7 hm7 hmr hsr hk7 hk8 hT hL hW hKr hsl hTl
      go_wp2_with fail
      go_loopg [23] L (fun gj jv wq => ∃ (j : Nat) (sq : List Int), j ≤ L ∧ gj = L - j ∧ jv = .int .i64 j ∧ Blk wq q3 3 (sq.map (Value.int .i64)) ∧ sq.length = 400 ∧ (∀ t : Nat, t < 400 → sq[t]?.getD 0 = g.seen[t]?.getD 0 + ((List.count (t : Int) (T.take j) : Nat) : Int)) ∧ Chg (fun x => x = q3) w8 wq)
      case atStart => exact ⟨0, g.seen, Nat.zero_le _, by omega, rfl, hb8, HHS.out, fun t _ => by simp, Chg.refl _ _⟩
      case round =>
        obtain ⟨j, sq, hj, rfl, rfl, hbq, hsql, hsq, hcq⟩ := hrel
        have HSQ : Hid _ := hsq
        have hKq : Kept w wr := hKr8.trans (hcq.toBelow hKr8.size (fun x hx e => by omega))
        by_cases hjL : (j : Int) < L
        · have hjT : j < T.length := by have := HLL.out; omega
          have ownq := ownsRow_chg own8 hcq (fun q hq e => by have := (ownsRow_base own8 q hq).1; omega)
          obtain ⟨g8, rfl, hc8⟩ := own_cell ownq (k := j) (by rw [List.length_map]; exact hjT)
          rw [List.getElem?_map, List.getElem?_eq_getElem hjT, Option.map_some] at hc8
          obtain ⟨x0, x1⟩ := HTR.out T[j] (List.getElem_mem _)
          obtain ⟨xn, hxn⟩ : ∃ xn : Nat, T[j] = (xn : Int) := ⟨T[j].toNat, by omega⟩
          have HXN : Hid (∀ h : j < T.length, T[j]'h = (xn : Int)) := fun _ => hxn
          rw [hxn] at x0 x1 hc8
          clear hxn
          have hx400 : xn < 400 := by omega
          have cS : wr.cell? ⟨q3, xn, none⟩ = some (.int .i64 (sq[xn]?.getD 0)) := by
            rw [hbq.cell xn, List.getElem?_map, List.getElem?_eq_getElem (by omega)]; rfl
          have fS := hbq.free xn
          have hb2 := hbq.set' xn (.int .i64 (sq[xn]?.getD 0 + 1)) (l' := (sq.set xn (sq[xn]?.getD 0 + 1)).map (Value.int .i64)) (by rw [List.map_set])
          have hc2 : Chg (fun x => x = q3) w8 (wr.setCell ⟨q3, xn, none⟩ (.int .i64 (sq[xn]?.getD 0 + 1))) := hcq.setCell _ _ (fun _ => rfl)
          have hs2 := seen_step hjT (HXN.out hjT) hsql hx400 hsq
          have hvb : -400 ≤ sq[xn]?.getD 0 ∧ sq[xn]?.getD 0 ≤ 1 := by
            have e1 := hsq xn hx400
            have e2 := HOV.out xn (by omega) hx400
            have e3 := HSB.out xn (by omega) hx400
            have e4 := seen_bound T j xn
            split at e2 <;> omega
          have HS2 : Hid _ := hs2
          clear hs2 hsq
          generalize sq[xn]?.getD 0 = sv at *
          have z1 : ¬ (xn : Int) < 1 := by omega
          have z2 : ¬ (xn : Int) > g.put := by omega
          have ws : IntKind.i64.wrap (sv + 1) = sv + 1 := IntWalk.i64_in _ (by omega)
          go_wp2_with fail
          go_roundg (L - (j + 1))
          case measure => omega
          case rel => exact ⟨j + 1, sq.set xn (sv + 1), by omega, rfl, by go_num, hb2, by rw [List.length_set]; exact hsql, HS2.out, hc2⟩
        · obtain rfl : j = L := by omega
          clear hsq
          go_wp2_with fail
          have hbq' := hbq
          go_loopg [24] pn (fun gt tv wq => ∃ t : Nat, 1 ≤ t ∧ t ≤ pn + 1 ∧ gt = pn + 1 - t ∧ tv = .int .i64 t ∧ wq = wr)
          case atStart => exact ⟨1, by omega, by omega, by omega, rfl, rfl⟩
          case round =>
            obtain ⟨t, t0, t1, rfl, rfl, rfl⟩ := hrel
            by_cases htp : (t : Int) ≤ g.put
            · have ht4 : t < 400 := by omega
              have hv : sq[t]?.getD 0 = 1 := by
                have e1 := HSQ.out t ht4
                have e2 := HOV.out t t0 ht4
                rw [if_pos htp] at e2
                rw [HLL.out, List.take_length] at e1
                omega
              have cS := hbq.cell t
              rw [List.getElem?_map, List.getElem?_eq_getElem (by omega)] at cS
              rw [List.getElem?_eq_getElem (by omega), Option.getD_some] at hv
              rw [hv] at cS
              clear hv
              go_wp2_with fail
              go_roundg (pn + 1 - (t + 1))
              case measure => omega
              case rel => exact ⟨t + 1, by omega, by omega, rfl, by go_num, rfl⟩
            · go_wp2_with fail
              go_ret
              exact ⟨rfl, hKq⟩

end Go.Proofs.Ytchlbdfapgeebaa
