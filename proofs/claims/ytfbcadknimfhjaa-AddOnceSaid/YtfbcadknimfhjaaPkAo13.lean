/- However the steps of two markers that put tasks somewhere come: the law's walk. -/
import Derived.Test.YtfbcadknimfhjaaPkAo5
import Derived.Test.YtfbcadknimfhjaaPkO
import Derived.Test.YtfbcadknimfhjaaPkAw13
import Derived.Test.YtfbcadknimfhjaaPkSm13
import Derived.Test.YtfbcadknimfhjaaPkM
import Derived.Test.YtfbcadknimfhjaaPkRow
import Derived.Deep.CutRange
import Derived.Deep.OwnRows
import Derived.Deep.QuietTactic
import Derived.BigQuiet
namespace Go.Proofs.Ytfbcadknimfhjaa
open Go.RowKit

set_option maxRecDepth 8000 in
set_option maxHeartbeats 4800000 in
theorem ao13_any (c : Cfg) (nn : Int) (vp : Value) (pks : List Bool) (w : World) (hnn : 0 ≤ nn ∧ nn ≤ 255) (hp : Reads w vp (pks.map Value.bool)) :
    Calls Try.prog 3 #[.agg #[.int .i64 c.c0, .int .i64 c.c1, .int .i64 c.c2, .int .i64 c.c3, .int .i64 c.c4, .int .i64 c.mks, .int .i64 c.mus, .int .i64 c.dq, .int .i64 c.ch, .int .i64 c.bu, .int .i64 c.ro, .int .i64 c.sw], .int .u8 nn, vp] w fun e w' => e = .returned (.bool true) ∧ Kept w w' := by
  obtain ⟨hnn0, hnn1⟩ := hnn
  obtain ⟨po, pcap, hvp⟩ := hp.form
  rw [List.length_map] at hvp
  subst hvp
  have HP : Hid (∀ W, Kept w W → Reads W (.slice po pks.length pcap) (pks.map Value.bool)) := fun W k => hp.kept k
  clear hp
  obtain ⟨pl, hpl⟩ : ∃ pl, pl = pks.length := ⟨_, rfl⟩
  have HPL : Hid (pl = pks.length) := hpl
  rw [← hpl] at HP ⊢
  clear hpl
  have hb := Blk.new w 24 [.int .i64 c.c0, .int .i64 c.c1, .int .i64 c.c2, .int .i64 c.c3, .int .i64 c.c4, .int .i64 c.mks, .int .i64 c.mus, .int .i64 c.dq, .int .i64 c.ch, .int .i64 c.bu, .int .i64 c.ro, .int .i64 c.sw]
  have hk0 : Kept w (w.alloc (.cells ([.int .i64 c.c0, .int .i64 c.c1, .int .i64 c.c2, .int .i64 c.c3, .int .i64 c.c4, .int .i64 c.mks, .int .i64 c.mus, .int .i64 c.dq, .int .i64 c.ch, .int .i64 c.bu, .int .i64 c.ro, .int .i64 c.sw] : List Value).toArray 24)) := (Below.refl _ _).alloc (Nat.le_refl _) _
  go_enter Try.func3, Try.ntmps3
  go_wp2_with fail
  generalize w.alloc (.cells ([.int .i64 c.c0, .int .i64 c.c1, .int .i64 c.c2, .int .i64 c.c3, .int .i64 c.c4, .int .i64 c.mks, .int .i64 c.mus, .int .i64 c.dq, .int .i64 c.ch, .int .i64 c.bu, .int .i64 c.ro, .int .i64 c.sw] : List Value).toArray 24) = w0 at *
  refine (awake13_any w0).mono ?_; rintro e w1 ⟨rfl, hk1⟩
  have hb1 := hk1.blk hb
  have hK1 : Kept w w1 := hk0.trans' hk1
  clear hb hk0 hk1 
  have c0 := hb1.cell 0
  have c1 := hb1.cell 1
  have c2 := hb1.cell 2
  have c3 := hb1.cell 3
  have c4 := hb1.cell 4
  have c5 := hb1.cell 5
  have c6 := hb1.cell 6
  have c7 := hb1.cell 7
  have c8 := hb1.cell 8
  have c9 := hb1.cell 9
  have c10 := hb1.cell 10
  have c11 := hb1.cell 11
  simp only [List.getElem?_cons_zero, List.getElem?_cons_succ] at c0 c1 c2 c3 c4 c5 c6 c7 c8 c9 c10 c11
  go_wp2_with fail
  refine (small13_any c w1).mono ?_; rintro e w2 ⟨⟨v, rfl, hv⟩, hk2⟩
  have HV : Hid (v = true → Good c ∧ Small c) := hv
  have hb2 := hk2.blk hb1
  have hK2 : Kept w w2 := hK1.trans' hk2
  clear hv hk2 hb1 hK1 c0 c1 c2 c3 c4 c5 c6 c7 c8 c9 c10 c11 
  cases v
  · go_wp2_with fail
    go_ret
    exact ⟨rfl, hK2⟩
  have hgs := HV.out rfl
  have Hg : Hid (Good c ∧ Small c) := hgs
  clear HV hgs
  by_cases h21 : (pl : Int) > 300
  · go_wp2_with fail
    go_ret
    exact ⟨rfl, hK2⟩
  have q0 := hb2.cell 0
  have q1 := hb2.cell 1
  have q2 := hb2.cell 2
  have q3 := hb2.cell 3
  have q4 := hb2.cell 4
  have q5 := hb2.cell 5
  have q6 := hb2.cell 6
  have q7 := hb2.cell 7
  have q8 := hb2.cell 8
  have q9 := hb2.cell 9
  have q10 := hb2.cell 10
  have q11 := hb2.cell 11
  simp only [List.getElem?_cons_zero, List.getElem?_cons_succ] at q0 q1 q2 q3 q4 q5 q6 q7 q8 q9 q10 q11
  by_cases h22 : c.mks < 2
  · go_wp2_with fail
    go_ret
    exact ⟨rfl, hK2⟩
  have hpl300 : pl ≤ 300 := by omega
  have hm2 : 2 ≤ c.mks := by omega
  go_wp2_with fail
  clear h21 h22
  refine (new_good c w2 Hg.out.1).mono ?_; rintro e w3 ⟨bm, rfl, hm3, hk3⟩
  have hK3 : Kept w w3 := hK2.trans' hk3
  clear q0 q1 q2 q3 q4 q5 q6 q7 q8 q9 q10 q11 hb2 hk3 hK2
  go_wp2_with fail
  refine (first_any w3 hm3 Hg.out.1 (Nat.le_refl _)).mono ?_; rintro e w4 ⟨v4, rfl, hr4, hk4⟩
  obtain ⟨fl0, fl1, fall⟩ := first_facts Hg.out.1
  have HF : Hid (∀ x ∈ firstL c, U x) := fall
  go_wp2_with fail
  refine (new_any w4 hr4 fl0 fl1 fall).mono ?_; rintro e w5 ⟨bs, bl, rfl, hs5, hbs5, hbl5, hk5⟩
  have hk35 : Kept w3 w5 := hk4.trans' hk5
  have hBs : w3.heap.size ≤ bs := Nat.le_trans hk4.size hbs5
  have hBl : w3.heap.size ≤ bl := Nat.le_trans hk4.size hbl5
  clear hr4 hk4 hk5 hbs5 hbl5 fl0 fl1 fall
  obtain ⟨many, hmany⟩ : ∃ many : Nat, nn % 6 = many := ⟨(nn % 6).toNat, by omega⟩
  have hm5 : many ≤ 5 := by omega
  have mk2 : ∀ W, (Instr.makeSlice 37 (.int .i64 2) (.int .i64 2)).run Try.prog W = .ok (.slice (some ⟨W.heap.size, 0, none⟩) 2 2) (W.alloc (.cells (list2 fun _ => .pointer none).toArray 39)) := fun _ => by kernel_rfl
  have k6 : Kept w5 (w5.alloc (.cells ([.int .i64 many, .int .i64 many] : List Value).toArray 3)) := (Below.refl _ _).alloc (Nat.le_refl _) _
  have b6 : Blk (w5.alloc (.cells ([.int .i64 many, .int .i64 many] : List Value).toArray 3)) w5.heap.size 3 [.int .i64 many, .int .i64 many] := Blk.new _ _ _
  go_wp2_with fail
  try rw [hmany]
  clear hmany
  generalize hw6 : w5.alloc (.cells ([.int .i64 many, .int .i64 many] : List Value).toArray 3) = w6 at *
  have z6 : w6.heap.size = w5.heap.size + 1 := by rw [← hw6]; simp
  clear hw6 mk2
  have k7 : Kept w6 (w6.alloc (.cells (list2 fun _ => .pointer none).toArray 39)) := (Below.refl _ _).alloc (Nat.le_refl _) _
  have b7 : Blk (w6.alloc (.cells (list2 fun _ => .pointer none).toArray 39)) w6.heap.size 39 (list2 fun _ => .pointer none) := Blk.new _ _ _
  rw [z6] at b7
  generalize w6.alloc (.cells (list2 fun _ => .pointer none).toArray 39) = w7 at *
  have HW : Hid (AOm c w3 bm bs bl w5.heap.size (w5.heap.size + 1) w7 (ag0 c many).mem (ag0 c many).act (fun _ => 0) (fun _ _ => False)) := by
    have z0 := hk35.size
    obtain ⟨s1, s2⟩ := hs5.lt
    exact ⟨(hk35.trans' k6).trans' k7, ⟨_, (hs5.kept k6).kept k7⟩, ⟨hBs, hBl⟩, ⟨⟨by omega, by omega⟩, Nat.ne_of_lt (by omega), ⟨Nat.ne_of_gt (by omega), Nat.ne_of_gt (by omega)⟩, Nat.ne_of_gt (by omega), Nat.ne_of_gt (by omega)⟩, k7.blk b6, b7, fun k _ am e => (by cases e), fun k _ q e => e.elim, fun k j _ _ _ q e => e.elim⟩
  have HM : Hid (MapAt w3 w3.heap.size bm c) := hm3
  clear hk35 hBs hBl hs5 k6 b6 k7 b7 z6 hm3
  generalize w5.heap.size + 1 = q1 at *
  generalize w5.heap.size = q0 at *
  have w160 : IntKind.i64.wrap ((pl : Int) + 160) = (pl : Int) + 160 := IntWalk.i64_in _ (by omega)
  go_loopg [15, 16] (pl + 160) (fun gk nv iv wr => ∃ (i : Nat) (g : AG) (bk : Nat → Nat) (O : Nat → Nat → Prop), i ≤ pl + 160 ∧ gk = pl + 160 - i ∧ iv = .int .i64 i ∧ nv = .int .u64 g.next ∧ AOm c w3 bm bs bl q0 q1 wr g.mem g.act bk O ∧ AoSum many g ∧ 0 ≤ g.next ∧ (2 * (many : Int) ≤ manyI c → AoAll c pl i g))
  case atStart => exact ⟨0, ag0 c many, _, _, by omega, by omega, rfl, rfl, HW.out, (by unfold AoSum ag0; simp; omega), Int.le_refl _, fun _ => AoAll.init Hg.out.1 hm2 hm5 HF.out⟩
  case round =>
    clear HW
    obtain ⟨i, g, bk, O, hi, rfl, rfl, rfl, hW, hS, hn0, hF⟩ := hrel
    have HA : Hid (2 * (many : Int) ≤ manyI c → AoAll c pl i g) := hF
    have hKr : Kept w wr := hK3.trans' hW.k
    have hnx : g.next + (g.act 0).left + (g.act 1).left = 2 * many := hS
    have HS : Hid (AoSum many g) := hS
    clear hF hS
    by_cases hlt : (i : Int) < (pl : Int) + 160
    · have hi0 : (0 : Int) ≤ i := by omega
      go_upto_if 70 with fail
      go_cut [17] from 67 to 74 (fun kv wx => ∃ k : Nat, k < 2 ∧ kv = .int .i64 k ∧ (pl ≤ i → k = i % 2) ∧ wx = wr)
      case first =>
        by_cases hpi : (i : Int) < (pl : Int)
        · have hiL : i < (pks.map Value.bool).length := by have := HPL.out; rw [List.length_map]; omega
          obtain ⟨ad, cap, e, _, hck⟩ := (HP.out wr hKr).get hiL
          simp only [Value.slice.injEq] at e
          obtain ⟨he, e2, e3⟩ := e
          clear e2 e3
          have hiL' : i < pks.length := by rw [List.length_map] at hiL; exact hiL
          rw [List.getElem?_map, List.getElem?_eq_getElem hiL', Option.map_some] at hck
          generalize pks[i] = z at *
          clear hiL hiL'
          cases z
          · go_wp2_with fail
            go_meet
            case rel => exact ⟨0, by omega, rfl, fun h => by omega, rfl⟩
          · go_wp2_with fail
            go_meet
            case rel => exact ⟨1, by omega, rfl, fun h => by omega, rfl⟩
        · go_wp2_with fail
          go_meet
          case rel => exact ⟨i % 2, by omega, by go_num, fun _ => rfl, rfl⟩
      case rest =>
        obtain ⟨k, hk, rfl, hki, rfl⟩ := hcut
        have hk0 : (0 : Int) ≤ k := by omega
        have hk2 : (k : Int) < 2 := by omega
        have cW := hW.cellW hk
        go_upto_region 21 with fail
        go_cut [79] from 75 to 79 (fun bv wx => bv = .bool ((g.act k).job.isNone) ∧ wx = wc)
        case first =>
          unfold jobA at cW
          cases hj : (g.act k).job with
          | none =>
            rw [hj] at cW
            go_wp2_with fail
            go_meet
            case rel => exact ⟨by rw [hj]; rfl, rfl⟩
          | some am =>
            rw [hj] at cW
            go_wp2_with fail
            go_meet
            case rel => exact ⟨by rw [hj]; rfl, rfl⟩
        case rest =>
          obtain ⟨rfl, rfl⟩ := hcut
          go_upto_if 79 with fail
          go_cut [15] from 79 to 103 (fun nv wx => ∃ (g1 : AG) (bk1 : Nat → Nat) (O1 : Nat → Nat → Prop) (am : AM), nv = .int .u64 g1.next ∧ (g1.act k).job = some am ∧ AOm c w3 bm bs bl q0 q1 wx g1.mem g1.act bk1 O1 ∧ AoSum many g1 ∧ 0 ≤ g1.next ∧ (2 * (many : Int) ≤ manyI c → AoAll c pl i g1))
          case first =>
            clear cW
            cases hj : (g.act k).job with
            | some am =>
              simp only [Option.isNone_some]
              go_wp2_with fail
              go_meet
              case rel => exact ⟨g, bk, O, am, rfl, hj, hW, HS.out, hn0, HA.out⟩
            | none =>
              simp only [Option.isNone_none]
              have HJ : Hid ((g.act k).job = none) := hj
              clear hj
              have cL := hW.cellL hk
              have fL := hW.lf.free k
              by_cases hl : ((g.act k).left : Int) = 0
              · rw [hl] at cL
                go_wp2_with fail
                go_roundg (pl + 160 - (i + 1))
                case measure => omega
                case rel => exact ⟨i + 1, g, bk, O, by omega, rfl, by go_num, rfl, hW, HS.out, hn0, fun h => (HA.out h).idle hk hki HJ.out (by omega)⟩
              · obtain ⟨l, hl2⟩ : ∃ l, (g.act k).left = l + 1 := ⟨(g.act k).left - 1, by omega⟩
                have hWk := hW.setL hk l
                obtain ⟨nk, hsk⟩ := hWk.st
                have hmk : MapAt _ w3.heap.size bm c := HM.out.below hWk.k (Nat.le_refl _)
                have hkl : (g.act k).left ≤ 10 := by
                  have : k = 0 ∨ k = 1 := by omega
                  rcases this with rfl | rfl <;> omega
                have HL2 : Hid ((g.act k).left = l + 1) := hl2
                rw [hl2, show ((l + 1 : Nat) : Int) = (l : Int) + 1 from by omega] at cL
                have hl10 : l ≤ 10 := by omega
                have hnx10 : g.next ≤ 10 := by omega
                clear hl hl2 hkl
                have ws : IntKind.i64.wrap ((l : Int) + 1 - 1) = l := by rw [show (l : Int) + 1 - 1 = l from by omega]; exact IntWalk.i64_in _ (by omega)
                go_wp2_with fail
                refine (addNew_any k ((g.next + 1) * 2 + k) _ hmk hWk.k.size Hg.out.1 (by unfold U; omega) hsk.lt.1 hsk.lt.2).mono ?_; rintro e w2 ⟨b, rfl, hx, hk2⟩
                have cW2 := (hWk.kept hk2).cellW hk
                have fW2 := (hWk.kept hk2).wk.free k
                clear cL fL hmk hsk
                go_wp2_with fail
                go_meet
                case rel =>
                  have hB := hW.begun hk l (Below.refl _ _) hk2 hx
                  have hs := HS.out.begin (c := c) hk (by rw [HL2.out]; omega)
                  have e1 : aoBegin c k g = { g with next := g.next + 1, act := upd2 g.act k ⟨some (newAM c k ((g.next + 1) * 2 + k)), l⟩ } := by
                    unfold aoBegin; rw [HL2.out]; rfl
                  have hal := fun h => (HA.out h).begin Hg.out.1 hm2 hk HJ.out (by rw [HL2.out]; omega)
                  rw [e1] at hs hal
                  exact ⟨_, _, _, newAM c k ((g.next + 1) * 2 + k), rfl, by simp only [upd2_same], hB, hs, by show 0 ≤ g.next + 1; omega, hal⟩
          case rest =>
            obtain ⟨g1, bk1, O1, am, rfl, hj, hW1, hS1, hn1, hA1⟩ := hcut
            have HJ : Hid ((g1.act k).job = some am) := hj
            have cW := hW1.cellW hk
            rw [jobA_some hj] at cW
            obtain ⟨n1', hs1⟩ := hW1.st
            have hX := hW1.x k hk am hj
            have hmr : MapAt wc w3.heap.size bm c := HM.out.below hW1.k (Nat.le_refl _)
            have D := astep_any wc Hg.out.1 hX hs1 hmr hW1.k.size (fun q hq => (hW1.ob k hk q hq).1) hW1.bo.1 hW1.bo.2
            have HS1 : Hid (AoSum many g1) := hS1
            clear hj hX hW HA
            go_wp2_with fail
            refine D.mono ?_; rintro e w1 ⟨rfl, hx, hs2, hc⟩
            clear D
            have hW2 := hW1.step hk HJ.out hx hs2 hc
            have HA2 : Hid (2 * (many : Int) ≤ manyI c → AoAll c pl (i + 1) (aoTurn c k g1)) := fun h => (hA1 h).turn HS1.out h Hg.out.1 hm2 (by omega) hk hki HJ.out hs2.all
            clear hA1 hs1 hc cW hmr hW1 hS1
            cases hf : (amStep c k g1.mem am).2.pc.fin with
            | false =>
              go_wp2_with fail
              go_roundg (pl + 160 - (i + 1))
              case measure => omega
              case rel => exact ⟨i + 1, aoTurn c k g1, _, _, by omega, rfl, by go_num, by rw [aoTurn_next], by rw [aoTurn_more HJ.out hf]; exact hW2, HS1.out.turn, by rw [aoTurn_next]; exact hn1, HA2.out⟩
            | true =>
              have cW := hW2.cellW hk
              have fW := hW2.wk.free k
              have HFI : Hid ((amStep c k g1.mem am).2.pc.fin = true) := hf
              clear hf hx
              go_wp2_with fail
              go_roundg (pl + 160 - (i + 1))
              case measure => omega
              case rel => exact ⟨i + 1, aoTurn c k g1, _, _, by omega, rfl, by go_num, by rw [aoTurn_next], by rw [aoTurn_done HJ.out HFI.out]; exact hW2.done (a := { g1.act k with job := some (amStep c k g1.mem am).2 }) hk rfl, HS1.out.turn, by rw [aoTurn_next]; exact hn1, HA2.out⟩
    · obtain rfl : i = pl + 160 := by omega
      have cL0 := hW.cellL (k := 0) (by omega)
      have cL1 := hW.cellL (k := 1) (by omega)
      obtain ⟨l0, hl0⟩ : ∃ l0 : Nat, (g.act 0).left = l0 := ⟨_, rfl⟩
      obtain ⟨l1, hl1⟩ : ∃ l1 : Nat, (g.act 1).left = l1 := ⟨_, rfl⟩
      rw [hl0] at cL0
      rw [hl1] at cL1
      rw [hl0, hl1] at hnx
      clear hl0 hl1
      have wl : IntKind.i64.wrap ((l0 : Int) + l1) = (l0 : Int) + l1 := IntWalk.i64_in _ (by omega)
      have wm : IntKind.i64.wrap (2 * (many : Int)) = 2 * (many : Int) := IntWalk.i64_in _ (by omega)
      have hmr : MapAt wr w3.heap.size bm c := HM.out.below hW.k (Nat.le_refl _)
      have fin1 : ∀ n, Kept w (wr.drewN n) := fun n => below_drewN hKr n
      by_cases hl : (l0 : Int) + l1 > 0
      · have hd : decide ((l0 : Int) + l1 > 0) = true := by simpa using hl
        go_wp2_with fail
        go_quiet (fail)
        go_wp2_with fail
        go_ret
        exact ⟨rfl, fin1 _⟩
      have hd : decide ((l0 : Int) + l1 > 0) = false := by simpa using hl
      by_cases hmp : 2 * (many : Int) > manyI c
      · go_wp2_with fail
        go_quiet ((go_at_call 11; exact Calls.quiet_of_same ((mPackets_any _ (hmr.drewN _)).mono fun _ _ h => ⟨h.1, h.2.symm⟩)))
        go_wp2_with fail
        go_ret
        exact ⟨rfl, fin1 _⟩
      go_wp2_with fail
      go_quiet ((go_at_call 11; exact Calls.quiet_of_same ((mPackets_any _ (hmr.drewN _)).mono fun _ _ h => ⟨h.1, h.2.symm⟩)))
      have hkq : Kept wr (wr.drewN nq) := below_drewN (Below.refl _ _) nq
      have hWq := hW.kept hkq
      have hKq := fin1 nq
      clear hW hKr cL0 cL1 hkq fin1 hmr wl hd
      generalize wr.drewN nq = wr at *
      have hW := hWq
      have hKr := hKq
      clear hWq hKq
      obtain ⟨T, D, hE⟩ := (HA.out (by omega)).end Hg.out.1 hm2 HS.out hm5
      have HE : Hid (AoEnd c g.mem T D many) := hE
      have hT10 := hE.tlen.1
      clear hE HS
      obtain ⟨q3, hq3⟩ : ∃ q3, q3 = wr.heap.size := ⟨_, rfl⟩
      have mk4 := run_make_row' (P := Try.prog) 36 3 (.int .i64 0) 8 Try.underlying36 info_int rfl .i64 .i64 40 (by omega) (by omega) wr
      have hO : madeCells #[Value.int .i64 0] 40 = ((List.replicate 40 (0 : Int)).map (Value.int .i64)).toArray := by
        rw [← Array.toList_inj, toList_madeCells_one, List.map_replicate]
      rw [hO, show ((40 : Nat) : Int) = 40 from rfl] at mk4
      clear hO
      have k9 : Kept wr (wr.alloc (.cells ((List.replicate 40 (0 : Int)).map (Value.int .i64)).toArray 3)) := (Below.refl _ _).alloc (Nat.le_refl _) _
      have b9 : Blk (wr.alloc (.cells ((List.replicate 40 (0 : Int)).map (Value.int .i64)).toArray 3)) wr.heap.size 3 ((List.replicate 40 (0 : Int)).map (Value.int .i64)) := Blk.new _ _ _
      generalize wr.alloc (.cells ((List.replicate 40 (0 : Int)).map (Value.int .i64)).toArray 3) = w6 at *
      rw [← hq3] at mk4 b9
      have hW6 := hW.kept k9
      obtain ⟨n0, hs6⟩ := hW6.st
      have hm6 : MapAt w6 w3.heap.size bm c := HM.out.below hW6.k (Nat.le_refl _)
      have hKr6 : Kept w w6 := hKr.trans' k9
      have hbo := hW.bo.1
      have hqs : q3 ≠ bs := by
        obtain ⟨n1, hs1⟩ := hW.st
        have := hs1.lt.1
        omega
      have hqw : w.heap.size ≤ q3 := by have := hKr.size; omega
      have hbw : w.heap.size ≤ bs := by have := hK3.size; omega
      have hk36 := hW6.k
      clear hq3 k9 hW hW6
      go_wp2_with fail
      clear mk4
      refine (mAll_any w6 hs6).mono ?_; rintro e w7 ⟨rfl, hb7, hk7⟩
      have hr7 : Row w7 (.slice (some ⟨w6.heap.size, 0, none⟩) g.mem.length g.mem.length) (g.mem.map (Value.int .u64)) := by
        have := hb7.row (by have := hs6.le; simp; unfold maxLen; omega)
        simpa using this
      have hm7 : MapAt w7 w3.heap.size bm c := HM.out.below (hk36.trans' hk7) (Nat.le_refl _)
      go_wp2_with fail
      refine (held_any w7 Hg.out.1 hm7 (hk36.trans' hk7).size hr7 hs6.pos hs6.le hs6.all).mono ?_; rintro e w8 ⟨v8, rfl, own8, hk8⟩
      rw [HE.out.held] at own8
      have hs8 : StoreAt w8 bs bl g.mem n0 := (hs6.kept hk7).kept hk8
      have hc8 : Chg (fun x => x = bs) w7 w8 := Chg.ofBelow hk8
      have HB7 : Hid (Blk w7 q3 3 ((List.replicate 40 (0 : Int)).map (Value.int .i64))) := hk7.blk b9
      have hK7 : Kept w w7 := hKr6.trans' hk7
      have hK37 : Kept w3 w7 := hk36.trans' hk7
      have hsl7 := (hs6.kept hk7).lt.1
      have hslb := (hs6.kept hk7).lt.2
      have hq7 : q3 < w7.heap.size := (hk7.blk b9).lt
      obtain ⟨i0, hi0, hz0, hz1, hz2⟩ := info_parts info_u64
      obtain ⟨a8, c8, rfl⟩ := own_slice own8
      clear hb7 hr7 hm7 hm6 hs6 hk7 hk8 b9 hKr hKr6 hk36 HA
      go_wp2_with fail
      go_loopg [19, 20] 2 (fun gk vo kv wq => ∃ (k : Nat) (n1 : Int), k ≤ 2 ∧ gk = 2 - k ∧ kv = .int .i64 k ∧ wq.ownsRow w7.heap.size 38 1 vo (upToL T D k).length ((upToL T D k).map (Value.int .u64)) ∧ StoreAt wq bs bl g.mem n1 ∧ Chg (fun x => x = bs) w7 wq)
      case atStart => exact ⟨0, n0, by omega, rfl, rfl, own8, hs8, hc8⟩
      case round =>
        clear own8 hs8 hc8
        obtain ⟨k, n1, hk, rfl, rfl, own, hs, hc⟩ := hrel
        obtain ⟨a9, c9, rfl⟩ := own_slice own
        by_cases hk2 : (k : Int) < 2
        · have hk2' : k < 2 := by omega
          have hk0 : (0 : Int) ≤ k := by omega
          obtain ⟨M, hM⟩ : ∃ M : Nat, M = (D k).length := ⟨_, rfl⟩
          have HM2 : Hid (M = (D k).length) := hM
          have hbot := HE.out.bot k hk2'
          rw [← hM] at hbot
          have hM10 := (HE.out.tlen.2 k hk2').1
          have hF10 := (HE.out.tlen.2 k hk2').2
          rw [← hM] at hM10
          have HF1 : Hid (upToL T D (k + 1) = upToL T D k ++ D k) := rfl
          generalize upToL T D k = F at *
          clear hM
          go_wp2_with fail
          go_loopg [19, 21] M (fun gt vo tv wq => ∃ (t : Nat) (n2 : Int), t ≤ M ∧ gt = M - t ∧ tv = .int .u64 t ∧ wq.ownsRow w7.heap.size 38 1 vo (F ++ (D k).take t).length ((F ++ (D k).take t).map (Value.int .u64)) ∧ StoreAt wq bs bl g.mem n2 ∧ Chg (fun x => x = bs) w7 wq)
          case atStart => exact ⟨0, n1, by omega, rfl, rfl, by simpa using own, hs, hc⟩
          case round =>
            clear own hs hc
            obtain ⟨t, n2, ht, rfl, rfl, own, hs, hc⟩ := hrel
            obtain ⟨ao, co, rfl⟩ := own_slice own
            have hmq : MapAt wr w3.heap.size bm c := HM.out.below (hK37.trans (hc.toBelow hK37.size (fun q hq e => by omega))) (Nat.le_refl _)
            have ht0 : (0 : Int) ≤ t := by omega
            by_cases htl : (t : Int) < M
            · have htD : t < (D k).length := by have := HM2.out; omega
              have hent := HE.out.ent k hk2' t htD
              obtain ⟨hpar, hr2, hr40⟩ := HE.out.parAt hk2' htD
              have HT2 : Hid ((D k).take (t + 1) = (D k).take t ++ [(D k)[t]?.getD 0]) := take_next htD
              generalize (D k)[t]?.getD 0 = x at *
              have hll : (F ++ (D k).take t).length ≤ 100 := by
                have := HM2.out
                simp; omega
              generalize hZ : (F ++ (D k).take t) = Z at *
              replace hZ : Hid _ := hZ
              have wt : IntKind.i64.wrap (t : Int) = t := IntWalk.i64_in _ (by omega)
              have wk : IntKind.u64.wrap (k : Int) = k := by rw [IntKind.wrap_u64]; omega
              have hpx : x.tmod 2 = (k : Int) := by rw [Int.tmod_eq_emod_of_nonneg (by omega)]; exact hpar
              clear htD
              go_wp2_with fail
              refine (mBottom_k k wr hmq Hg.out.1).mono ?_; rintro e w9 ⟨rfl, hk9⟩
              have hs9 := hs.kept hk9
              go_wp2_with fail
              refine (load_any (pEnd c k 1) w9 hs9).mono ?_; rintro e w10 ⟨rfl, hs10, hc10⟩
              rw [hbot]
              have hc10' : Chg (fun x => x = bs) w7 w10 := (hc.trans (Chg.ofBelow hk9)).trans hc10
              have hm10 : MapAt w10 w3.heap.size bm c := HM.out.below (hK37.trans (hc10'.toBelow hK37.size (fun q hq e => by omega))) (Nat.le_refl _)
              have own10 := ownsRow_chg own ((Chg.ofBelow hk9).trans hc10) (fun g hg' e => by have := ownsRow_base own g hg'; omega)
              clear hs9 hc hk9 hc10 hs own hmq
              go_wp2_with fail
              refine (mEntry_k k t w10 hm10 Hg.out.1).mono ?_; rintro e w11 ⟨rfl, hk11⟩
              have hs11 := hs10.kept hk11
              go_wp2_with fail
              refine (load_any (pEntry c k t) w11 hs11).mono ?_; rintro e w12 ⟨rfl, hs12, hc12⟩
              rw [hent]
              have hc12' : Chg (fun x => x = bs) w7 w12 := (hc10'.trans (Chg.ofBelow hk11)).trans hc12
              have own12 := ownsRow_chg own10 ((Chg.ofBelow hk11).trans hc12) (fun g hg' e => by have := ownsRow_base own10 g hg'; omega)
              clear hs11 hc10' hk11 hc12 hs10 own10 hm10
              have hsz4 := hc12'.size
              go_wp2_with (at_builtin; refine wpList_append_lies _ rfl _ _ 34 rfl w7.heap.size 38 i0 (.int .u64 0) 1 8 Try.underlying34 hi0 hz0 hz1 hz2 rfl (by decide) _ _ _ rfl (own12.alloc _) ⟨w12.heap.size, 0, none⟩ 1 1 [.int .u64 x] rfl rfl ?c1 ?c2 (by omega) ?c3 ?c4 ?c5 _ rfl ?_)
              all_goals first
                | (intro j u hj; match j, hj with | 0, hj => (simp at hj; subst hj; simp [Addr.add]; done))
                | (intro u hu; simp at hu; subst hu; rfl)
                | rfl
                | (unfold maxLen; omega)
                | omega
                | (simp; done)
                | (simp; omega)
                | skip
              intro gb cp w13 own13 hgrow _ _
              have hrow : ∀ q, Value.ownBlock (.slice ao Z.length co) = some q → w7.heap.size ≤ q := fun q hq => (ownsRow_base own12 q hq).1
              have hc13 : Chg (fun x => x = bs) w7 w13 := (hc12'.alloc _).grown hgrow (fun q hq hq2 => by have := hrow q hq; omega)
              have hs13 : StoreAt w13 bs bl g.mem _ := hs12.chg (((Chg.refl (fun i => w7.heap.size ≤ i) w12).alloc _).grown hgrow (fun q hq _ => hrow q hq)) (by omega) (by have := hslb; omega)
              clear hgrow
              go_wp2_with fail
              go_roundg (M - (t + 1))
              case measure => omega
              case rel =>
                refine ⟨t + 1, _, by omega, rfl, by go_num, ?_, hs13, hc13⟩
                rw [HT2.out, ← List.append_assoc, hZ.out]
                simpa using own13
            · obtain rfl : t = M := by omega
              have HZ : Hid (F ++ (D k).take t = F ++ D k) := by unfold Hid; rw [List.take_of_length_le (by rw [← HM2.out]; exact Nat.le_refl _)]
              rw [HZ.out] at own
              rw [HZ.out]
              rw [← HF1.out] at own
              rw [← HF1.out]
              go_wp2_with fail
              refine (mBottom_k k wr hmq Hg.out.1).mono ?_; rintro e w9 ⟨rfl, hk9⟩
              have hs9 := hs.kept hk9
              go_wp2_with fail
              refine (load_any (pEnd c k 1) w9 hs9).mono ?_; rintro e w10 ⟨rfl, hs10, hc10⟩
              rw [hbot]
              have hc10' : Chg (fun x => x = bs) w7 w10 := (hc.trans (Chg.ofBelow hk9)).trans hc10
              have own10 := ownsRow_chg own ((Chg.ofBelow hk9).trans hc10) (fun g hg' e => by have := ownsRow_base own g hg'; omega)
              clear hs9 hc hk9 hc10 hs own hmq
              go_wp2_with fail
              go_roundg (2 - (k + 1))
              case measure => omega
              case rel => exact ⟨k + 1, _, by omega, rfl, by go_num, own10, hs10, hc10'⟩
        · obtain rfl : k = 2 := by omega
          have hKw : Kept w wr := hK7.trans (hc.toBelow hK7.size (fun x hx e => by omega))
          have hbq := hc.blk HB7.out hqs
          have hlen := HE.out.len
          obtain ⟨T2, hT2⟩ : ∃ T2, upToL T D 2 = T2 := ⟨_, rfl⟩
          have HT2 : Hid (upToL T D 2 = T2) := hT2
          rw [hT2] at own hlen ⊢
          clear hT2 hs hc HB7
          obtain ⟨L, hL⟩ : ∃ L : Nat, L = T2.length := ⟨_, rfl⟩
          have HLL : Hid (L = T2.length) := hL
          rw [← hL] at own hlen ⊢
          have hL10 : L ≤ 10 := by omega
          clear hL
          have HCN : Hid (∀ x, List.count x T2 ≤ 1) := by have := HE.out.cnt; rw [HT2.out] at this; exact this
          have HRG : Hid (∀ x ∈ T2, 2 ≤ x ∧ x < 40) := by have := HE.out.rng; rw [HT2.out] at this; exact this
          have hqr : q3 < wr.heap.size := hbq.lt
          generalize hwA : wr = wA at *
          clear hwA
          go_wp2_with fail
          go_loopg [23] L (fun gj jv wq => ∃ (j : Nat) (sq : List Int), j ≤ L ∧ gj = L - j ∧ jv = .int .i64 j ∧ Blk wq q3 3 (sq.map (Value.int .i64)) ∧ sq.length = 40 ∧ (∀ t : Nat, t < 40 → sq[t]?.getD 0 = ((List.count (t : Int) (T2.take j) : Nat) : Int)) ∧ Chg (fun x => x = q3) wA wq)
          case atStart => exact ⟨0, _, Nat.zero_le _, by omega, rfl, hbq, List.length_replicate, fun t ht => by rw [List.getElem?_replicate, if_pos ht]; rfl, Chg.refl _ _⟩
          case round =>
            clear hbq
            obtain ⟨j, sq, hj, rfl, rfl, hbq, hsql, hsq, hcq⟩ := hrel
            have HSQ : Hid _ := hsq
            have hKq : Kept w wr := hKw.trans (hcq.toBelow hKw.size (fun x hx e => by omega))
            by_cases hjL : (j : Int) < L
            · have hjT : j < T2.length := by have := HLL.out; omega
              have ownq := ownsRow_chg own hcq (fun q hq e => by have := (ownsRow_base own q hq).1; omega)
              obtain ⟨g8, rfl, hc8⟩ := own_cell ownq (k := j) (by rw [List.length_map]; exact hjT)
              rw [List.getElem?_map, List.getElem?_eq_getElem hjT, Option.map_some] at hc8
              obtain ⟨x0, x1⟩ := HRG.out T2[j] (List.getElem_mem _)
              obtain ⟨xn, hxn⟩ : ∃ xn : Nat, T2[j] = (xn : Int) := ⟨T2[j].toNat, by omega⟩
              have HXN : Hid (∀ h : j < T2.length, T2[j]'h = (xn : Int)) := fun _ => hxn
              rw [hxn] at x0 x1 hc8
              clear hxn
              have hx40 : xn < 40 := by omega
              have cS : wr.cell? ⟨q3, xn, none⟩ = some (.int .i64 (sq[xn]?.getD 0)) := by
                rw [hbq.cell xn, List.getElem?_map, List.getElem?_eq_getElem (by omega)]; rfl
              have fS := hbq.free xn
              have hb2 := hbq.set' xn (.int .i64 (sq[xn]?.getD 0 + 1)) (l' := (sq.set xn (sq[xn]?.getD 0 + 1)).map (Value.int .i64)) (by rw [List.map_set])
              have hc2 : Chg (fun x => x = q3) wA (wr.setCell ⟨q3, xn, none⟩ (.int .i64 (sq[xn]?.getD 0 + 1))) := hcq.setCell _ _ (fun _ => rfl)
              have hs2 := seen40 hjT (HXN.out hjT) hsql hx40 hsq
              have hvb : 0 ≤ sq[xn]?.getD 0 ∧ sq[xn]?.getD 0 ≤ 1 := by
                have e1 := hsq xn hx40
                have e2 := HCN.out xn
                have e4 := seenLe T2 j xn
                omega
              have HS2 : Hid _ := hs2
              clear hs2 hsq
              generalize sq[xn]?.getD 0 = sv at *
              have z1 : ¬ (xn : Int) ≥ 40 := by omega
              have ws : IntKind.i64.wrap (sv + 1) = sv + 1 := IntWalk.i64_in _ (by omega)
              go_wp2_with fail
              go_roundg (L - (j + 1))
              case measure => omega
              case rel => exact ⟨j + 1, sq.set xn (sv + 1), by omega, rfl, by go_num, hb2, by rw [List.length_set]; exact hsql, HS2.out, hc2⟩
            · obtain rfl : j = L := by omega
              clear hsq
              have HSV : Hid (∀ t : Nat, t < 40 → sq[t]?.getD 0 = ((List.count (t : Int) T2 : Nat) : Int)) := fun t ht => by
                rw [HSQ.out t ht, HLL.out, List.take_length]
              have HSM : Hid (sumTo2 (fun t => ((List.count (t : Int) T2 : Nat) : Int)) 40 = 2 * (many : Int)) := by
                have := sum_count T2 40 (fun x hx => ⟨by have := HRG.out x hx; omega, (HRG.out x hx).2⟩)
                unfold Hid
                rw [this, ← HLL.out]; omega
              have HSB : Hid (∀ n, 0 ≤ sumTo2 (fun t => ((List.count (t : Int) T2 : Nat) : Int)) n ∧ sumTo2 (fun t => ((List.count (t : Int) T2 : Nat) : Int)) n ≤ n) := sumTo2_le (fun j => ⟨by omega, by have := HCN.out j; omega⟩)
              go_wp2_with fail
              go_loopg [24, 25] 40 (fun gt fv tv wq => ∃ t : Nat, t ≤ 40 ∧ gt = 40 - t ∧ fv = .int .i64 (sumTo2 (fun t => ((List.count (t : Int) T2 : Nat) : Int)) t) ∧ tv = .int .i64 t ∧ wq = wr)
              case atStart => exact ⟨0, by omega, rfl, rfl, rfl, rfl⟩
              case round =>
                obtain ⟨t, t1, rfl, rfl, rfl, rfl⟩ := hrel
                by_cases htp : (t : Int) < 40
                · have ht4 : t < 40 := by omega
                  have hv := HSV.out t ht4
                  have hv1 := HCN.out t
                  obtain ⟨sm0, sm1⟩ := HSB.out t
                  have HSN : Hid (sumTo2 (fun t => ((List.count (t : Int) T2 : Nat) : Int)) (t + 1) = sumTo2 (fun t => ((List.count (t : Int) T2 : Nat) : Int)) t + ((List.count (t : Int) T2 : Nat) : Int)) := rfl
                  generalize sumTo2 (fun t => ((List.count (t : Int) T2 : Nat) : Int)) t = sm at *
                  generalize List.count (t : Int) T2 = cn at *
                  have cS := hbq.cell t
                  rw [List.getElem?_map, List.getElem?_eq_getElem (by omega)] at cS
                  rw [List.getElem?_eq_getElem (by omega), Option.getD_some] at hv
                  rw [hv] at cS
                  clear hv
                  have z1 : ¬ (cn : Int) > 1 := by omega
                  have ws : IntKind.i64.wrap (sm + (cn : Int)) = sm + cn := IntWalk.i64_in _ (by omega)
                  go_wp2_with fail
                  go_roundg (40 - (t + 1))
                  case measure => omega
                  case rel => exact ⟨t + 1, by omega, rfl, by rw [HSN.out], by go_num, rfl⟩
                · obtain rfl : t = 40 := by omega
                  rw [HSM.out]
                  go_wp2_with fail
                  go_ret
                  exact ⟨ret_bool (by simp), hKq⟩

end Go.Proofs.Ytfbcadknimfhjaa
