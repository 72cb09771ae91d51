/- Alone: a task is done, walked. -/
import Derived.Test.YtapdpclgbpgklaaGreatPkAloneB
namespace Go.Proofs.YtapdpclgbpgklaaGreat
open Go.RowKit

set_option maxRecDepth 100000 in
set_option maxHeartbeats 6400000 in
theorem alone14_any (c : Cfg) (v ff : Int) (v1 : Value) (fs : List Int) (v2 : Value) (zs : List Int) (w : World) (hv : 0 ≤ v ∧ v ≤ 255) (hff : 0 ≤ ff ∧ ff ≤ 255) (hp : Reads w v1 (fs.map (Value.int .u64))) (hz : ∀ z ∈ fs, U z) (hp2 : Reads w v2 (zs.map (Value.int .u8))) (hz2 : ∀ z ∈ zs, 0 ≤ z ∧ z ≤ 255) :
    Calls Tryz.prog 6 #[.agg #[.int .i64 c.c0, .int .i64 c.c1, .int .i64 c.c2, .int .i64 c.c3, .int .i64 c.c4, .int .i64 c.mks, .int .i64 c.mus, .int .i64 c.dq, .int .i64 c.ch, .int .i64 c.bu, .int .i64 c.ro, .int .i64 c.sw], .int .u8 v, .int .u8 ff, v1, v2] w fun e w' => e = .returned (.bool true) ∧ Kept w w' := by
  obtain ⟨ao1, cp1, e1⟩ := hp.form
  rw [List.length_map] at e1
  subst e1
  obtain ⟨fl, hfl⟩ : ∃ fl : Nat, fs.length = fl := ⟨_, rfl⟩
  have HP : Hid (Reads w (.slice ao1 fs.length cp1) (fs.map (Value.int .u64))) := hp
  rw [hfl]
  have HFL : Hid (fs.length = fl) := hfl
  clear hp hfl
  obtain ⟨ao2, cp2, e2⟩ := hp2.form
  rw [List.length_map] at e2
  subst e2
  obtain ⟨zl, hzl⟩ : ∃ zl : Nat, zs.length = zl := ⟨_, rfl⟩
  have HP2 : Hid (Reads w (.slice ao2 zs.length cp2) (zs.map (Value.int .u8))) := hp2
  rw [hzl]
  have HZL : Hid (zs.length = zl) := hzl
  clear hp2 hzl
  have hb := Blk.new w 24 [.int .i64 c.c0, .int .i64 c.c1, .int .i64 c.c2, .int .i64 c.c3, .int .i64 c.c4, .int .i64 c.mks, .int .i64 c.mus, .int .i64 c.dq, .int .i64 c.ch, .int .i64 c.bu, .int .i64 c.ro, .int .i64 c.sw]
  have hk0 : Kept w (w.alloc (.cells ([.int .i64 c.c0, .int .i64 c.c1, .int .i64 c.c2, .int .i64 c.c3, .int .i64 c.c4, .int .i64 c.mks, .int .i64 c.mus, .int .i64 c.dq, .int .i64 c.ch, .int .i64 c.bu, .int .i64 c.ro, .int .i64 c.sw] : List Value).toArray 24)) := (Below.refl _ _).alloc (Nat.le_refl _) _
  go_enter Tryz.func6, Tryz.ntmps6
  go_wp2_with fail
  generalize w.alloc (.cells ([.int .i64 c.c0, .int .i64 c.c1, .int .i64 c.c2, .int .i64 c.c3, .int .i64 c.c4, .int .i64 c.mks, .int .i64 c.mus, .int .i64 c.dq, .int .i64 c.ch, .int .i64 c.bu, .int .i64 c.ro, .int .i64 c.sw] : List Value).toArray 24) = w0 at *
  refine (awake14_any w0).mono ?_; rintro e w1 ⟨rfl, hk1⟩
  have hb1 := hk1.blk hb
  have hK1 : Kept w w1 := hk0.trans' hk1
  clear hb hk0 hk1 
  have c0 := hb1.cell 0
  have c1 := hb1.cell 1
  have c2 := hb1.cell 2
  have c3 := hb1.cell 3
  have c4 := hb1.cell 4
  have c5 := hb1.cell 5
  have c6 := hb1.cell 6
  have c7 := hb1.cell 7
  have c8 := hb1.cell 8
  have c9 := hb1.cell 9
  have c10 := hb1.cell 10
  have c11 := hb1.cell 11
  simp only [List.getElem?_cons_zero, List.getElem?_cons_succ] at c0 c1 c2 c3 c4 c5 c6 c7 c8 c9 c10 c11
  go_wp2_with fail
  refine (small14_any c w1).mono ?_; rintro e w2 ⟨⟨v, rfl, hv⟩, hk2⟩
  have HV : Hid (v = true → Good c ∧ Small c) := hv
  have hb2 := hk2.blk hb1
  have hK2 : Kept w w2 := hK1.trans' hk2
  clear hv hk2 hb1 hK1 c0 c1 c2 c3 c4 c5 c6 c7 c8 c9 c10 c11 
  cases v
  · go_wp2_with fail
    go_ret
    exact ⟨rfl, hK2⟩
  have hgs := HV.out rfl
  have Hg : Hid (Good c ∧ Small c) := hgs
  clear HV hgs
  by_cases h40 : (fl : Int) > 40
  · go_wp2_with fail
    go_ret
    exact ⟨rfl, hK2⟩
  by_cases h00 : (fl : Int) = 0
  · go_wp2_with fail
    go_ret
    exact ⟨rfl, hK2⟩
  by_cases h100 : (zl : Int) > 20
  · go_wp2_with fail
    go_ret
    exact ⟨rfl, hK2⟩
  have h101 : ¬ (20 : Int) < zl := by omega
  have hd1 : decide ((20 : Int) < zl) = false := decide_eq_false h101
  have h41 : ¬ (40 : Int) < fl := by omega
  have hd4 : decide ((40 : Int) < fl) = false := decide_eq_false h41
  have hd0 : decide ((fl : Int) = 0) = false := decide_eq_false h00
  have h01 : ¬ fl = 0 := by omega
  have c0 := hb2.cell 0
  have c1 := hb2.cell 1
  have c2 := hb2.cell 2
  have c3 := hb2.cell 3
  have c4 := hb2.cell 4
  have c5 := hb2.cell 5
  have c6 := hb2.cell 6
  have c7 := hb2.cell 7
  have c8 := hb2.cell 8
  have c9 := hb2.cell 9
  have c10 := hb2.cell 10
  have c11 := hb2.cell 11
  simp only [List.getElem?_cons_zero, List.getElem?_cons_succ] at c0 c1 c2 c3 c4 c5 c6 c7 c8 c9 c10 c11
  go_wp2_with fail
  refine (new_good c w2 Hg.out.1).mono ?_; rintro e w3 ⟨bm, rfl, hm3, hk3⟩
  have hK3 : Kept w w3 := hK2.trans' hk3
  have hb3 := hk3.blk hb2
  have hW3 : w.heap.size < w3.heap.size := hb3.lt
  clear c0 c1 c2 c3 c4 c5 c6 c7 c8 c9 c10 c11 hb2 hk3 hK2 
  go_wp2_with fail
  rw [← HFL.out]
  refine (filled14_any w3 Hg.out.1 hm3 (Nat.le_refl _) (HP.out.kept hK3) hz (by rw [HFL.out]; omega)).mono ?_; rintro e w5 ⟨bs, bl, mem0, n0, rfl, hs5, hfil, hbs5, hbl5, hk5⟩
  have hm5 := hm3.kept hk5 (Nat.le_refl _)
  have hK5 : Kept w w5 := hK3.trans' hk5
  have hB5 : w3.heap.size ≤ w5.heap.size := hk5.size
  have hcf5 : Blk w5 w.heap.size _ _ := below_blk hk5 hb3 hW3
  have hA := allI_bound Hg.out.1
  have hn0 := node0_bound Hg.out.1
  have hnb := nN_bound Hg.out.1
  have hlen : (mem0.length : Int) = allI c := by have := hfil.len.trans (freeTo_len c _); omega
  have HT0 : Hid (Tk c mem0 0) := by
    obtain ⟨P, S, h⟩ := hfil.ainv Hg.out.1
    exact ⟨[], P, S, rfl, h⟩
  have HL0 : Hid ((mem0.length : Int) = allI c) := hlen
  have HW0 : Hid (mget mem0 1 = 0) := by
    unfold Hid
    rw [hfil.same 1 (fun v j v1 v2 hj hr e => by have h3 := (node_place (c := c) v1 v2 (j := j) (by omega) hr).1; omega), firstL_work Hg.out.1]
  clear hm3 hk5 hb3 hfil hlen
  go_wp2_with fail
  go_loopw [16] (fun kv wr => ∃ (k : Nat) (mem : List Int) (n' : Int), k ≤ zl ∧ kv = .int .i64 k ∧ Hid (Tk c mem 0) ∧ Hid ((mem.length : Int) = allI c) ∧ Hid (mget mem 1 = 0) ∧ StoreAt wr bs bl mem n' ∧ Below w3.heap.size w5 wr) (fun kv _ => zl - (intOf kv).toNat)
  case atStart => exact ⟨0, mem0, _, by omega, rfl, HT0, HL0, HW0, hs5, Below.refl _ _⟩
  case round =>
    clear HT0 HL0 HW0 hs5
    obtain ⟨k, mem, n', hk, rfl, HT0, HL0, HW0, hs, hbw⟩ := hrel
    have hm' := hm5.below hbw (Nat.le_refl _)
    have zr : w5.heap.size ≤ wr.heap.size := hbw.size
    have hKr : Kept w wr := hK5.trans (hbw.mono (Nat.le_of_lt hW3))
    by_cases hkz : (k : Int) < zl
    · have hkz' : k < zs.length := by have := HZL.out; omega
      obtain ⟨ad, cap, e, hcap, hck⟩ := (show Reads w (.slice ao2 zs.length cp2) (zs.map (Value.int .u8)) from HP2.out).get (i := k) (by simpa using hkz')
      rw [List.getElem?_map, List.getElem?_eq_getElem hkz', Option.map_some] at hck
      have hzk := hz2 zs[k] (List.getElem_mem _)
      obtain ⟨hzk0, hzk1⟩ := hzk
      generalize zs[k] = z at *
      simp only [List.length_map, Value.slice.injEq] at e
      obtain ⟨rfl, _, rfl⟩ := e
      have hckr : wr.cell? (ad.add k) = some (.int .u8 z) := by
        rw [Below.cell hKr (by exact lt_of_cell hck)]; exact hck
      obtain ⟨u, hu⟩ : ∃ u : Int, u = z % 16 := ⟨_, rfl⟩
      have hu0 : 0 ≤ u := by omega
      have hu1 : u < 16 := by omega
      have hut : z.tmod 16 = u := by rw [hu]; exact Int.tmod_eq_emod_of_nonneg hzk0
      have yu8 : IntKind.u8.wrap u = u := by rw [IntKind.wrap_u8]; omega
      have yu : IntKind.i64.wrap u = u := wrap_small (by omega) (by omega)
      have yk : IntKind.i64.wrap ((k : Int) + 1) = k + 1 := wrap_small (by omega) (by omega)
      clear hu
      go_wp2_with fail
      refine (mMark_any u wr hm' Hg.out.1).mono ?_; rintro e wx ⟨rfl, rfl⟩
      go_wp2_with fail
      refine (put_any (pNode c u 2) 3 wr hs (by unfold U; omega)).mono ?_; rintro e w7 ⟨rfl, hs7, hc7⟩
      have hb7 : Below w3.heap.size wr w7 := hc7.toBelow (by omega) (fun q hq e => by rcases e with e | e <;> omega)
      go_wp2_with fail
      go_roundw
      case rel =>
        refine ⟨k + 1, _, _, by omega, by go_num, ?_, ?_, ?_, hs7, hbw.trans hb7⟩
        · exact HT0.out.low Hg.out.1 (mput_len _ _ _) (fun a ha _ => mark_put_low Hg.out.1 ha)
        · unfold Hid; rw [mput_len]; exact HL0.out
        · unfold Hid; rw [mark_put_low Hg.out.1 (by omega)]; exact HW0.out
      case measure => simp [intOf]; omega
    · have hkk : k = zl := by omega
      subst hkk
      obtain ⟨nn, hnn⟩ : ∃ nn : Nat, nN c = nn := ⟨_, rfl⟩
      rw [hnn] at hnb
      have HNN : Hid (nN c = nn) := hnn
      clear hnn
      have hnz : ¬ (nn : Int) = 0 := by omega
      obtain ⟨u, hu⟩ : ∃ u : Int, u = v % nn := ⟨_, rfl⟩
      have hu0 : 0 ≤ u := by rw [hu]; exact Int.emod_nonneg _ hnz
      have hu1 : u < nn := by rw [hu]; exact Int.emod_lt_of_pos _ (by omega)
      have hut : v.tmod nn = u := by rw [hu]; exact Int.tmod_eq_emod_of_nonneg hv.1
      have y1 : IntKind.i64.wrap v = v := wrap_small hv.1 (by omega)
      have y2 : IntKind.i64.wrap u = u := wrap_small hu0 (by omega)
      have y3 : IntKind.i64.wrap (u + 1) = u + 1 := wrap_small (by omega) (by omega)
      have y4 : IntKind.i64.wrap ff = ff := wrap_small hff.1 (by omega)
      have hcfr : Blk wr w.heap.size _ _ := below_blk hbw hcf5 hW3
      clear hu hkz hk hbw hcf5
      generalize wr = w6 at *
      go_wp2_with fail
      refine (mNodes_any w6 hm').mono ?_; rintro e wx ⟨rfl, rfl⟩
      rw [HNN.out]
      go_wp2_with fail
      have hv1 : 1 ≤ u + 1 ∧ u + 1 ≤ nN c := by rw [HNN.out]; omega
      obtain ⟨x, hx⟩ : ∃ x : Int, x = u + 1 := ⟨_, rfl⟩
      rw [← hx] at hv1 ⊢
      have hxn : x ≤ nn := by have := HNN.out; omega
      have hroom := room_bound c x
      have hpos : room c x ≠ 0 := fun e => room_zero.1 e hv1
      obtain ⟨rm, hrm⟩ : ∃ rm : Nat, room c x = rm := ⟨(room c x).toNat, by omega⟩
      rw [hrm] at hroom hpos
      have HRM : Hid (room c x = rm) := hrm
      have HX : Hid (x = u + 1) := hx
      clear hrm hx
      have yrm : IntKind.u64.wrap (rm : Int) = rm := by rw [IntKind.wrap_u64]; omega
      refine (mRoom_any x w6 hm' Hg.out.1).mono ?_; rintro e wx ⟨rfl, rfl⟩
      rw [HRM.out]
      go_wp2_with fail
      refine (mHeader_any x w6 hm' Hg.out.1).mono ?_; rintro e wx ⟨rfl, rfl⟩
      go_wp2_with fail
      refine (put_any (pNode c x 0) rm w6 hs (by unfold U; omega)).mono ?_; rintro e w7 ⟨rfl, hs7, hc7⟩
      have hb7 : Below w3.heap.size w6 w7 := hc7.toBelow (by omega) (fun q hq e => by rcases e with e | e <;> omega)
      have hm7 := hm'.below hb7 (Nat.le_refl _)
      have hK7 : Kept w w7 := hKr.trans (hb7.mono (Nat.le_of_lt hW3))
      have z7 : w3.heap.size ≤ w7.heap.size := by have := hb7.size; omega
      have hcf7 : Blk w7 w.heap.size _ _ := below_blk hb7 hcfr hW3
      have hnp := pNode_far Hg.out.1 hv1 (j := 0) (by omega) (by omega)
      have hpl := (node_place (c := c) hv1.1 hv1.2 (j := 0) (by omega) (by have := HRM.out; omega)).2
      -- where the piece begins and ends
      obtain ⟨fr, hfr⟩ : ∃ fr : Nat, (fr : Int) = ff % ((rm : Int) + 1) := ⟨(ff % ((rm : Int) + 1)).toNat, by have := Int.emod_nonneg ff (show (rm : Int) + 1 ≠ 0 by omega); omega⟩
      have hfr1 : (fr : Int) < (rm : Int) + 1 := by rw [hfr]; exact Int.emod_lt_of_pos _ (by omega)
      have hft : ff.tmod ((rm : Int) + 1) = fr := by rw [hfr]; exact Int.tmod_eq_emod_of_nonneg hff.1
      have hrz : ¬ (rm : Int) + 1 = 0 := by omega
      have y5 : IntKind.i64.wrap ((rm : Int) + 1) = rm + 1 := wrap_small (by omega) (by omega)
      have y6 : IntKind.i64.wrap (fr : Int) = fr := wrap_small (by omega) (by omega)
      have hch : 1 ≤ c.ch ∧ c.ch ≤ 16 := by have := Hg.out.1; unfold Good at this; omega
      have y7 : IntKind.i64.wrap ((fr : Int) + c.ch) = fr + c.ch := wrap_small (by omega) (by omega)
      have hmk0 : (0 : Int) ≤ 0 ∧ (0 : Int) < c.mks := by have := Hg.out.1; unfold Good at this; omega
      obtain ⟨en, hen⟩ : ∃ en : Nat, min ((fr : Int) + c.ch) (rm : Int) = en := ⟨(min ((fr : Int) + c.ch) (rm : Int)).toNat, by omega⟩
      have hen1 : fr ≤ en ∧ en ≤ rm ∧ en ≤ fr + 16 := by omega
      have HEN : Hid (P1 c x fr = en) := by unfold Hid P1; rw [HRM.out, ← hen]
      have HMN : Hid (min ((fr : Int) + c.ch) (rm : Int) = en) := hen
      clear hen hfr
      have HT1 : Hid (Tk c (mput mem (pNode c x 0) rm) 0) := HT0.out.low Hg.out.1 (mput_len _ _ _) (fun a ha _ => mget_other (by omega))
      have HD1 : Hid (mget (mput mem (pNode c x 0) rm) (pNode c x 0) = rm) := mget_put (by have := HL0.out; omega)
      have HL1 : Hid (((mput mem (pNode c x 0) rm).length : Int) = allI c) := by unfold Hid; rw [mput_len]; exact HL0.out
      have HW1 : Hid (mget (mput mem (pNode c x 0) rm) 1 = 0) := by unfold Hid; rw [mget_other (by omega)]; exact HW0.out
      generalize mput mem (pNode c x 0) rm = mem1 at *
      have HM0 : Hid (Md c x fr 3 (fun j => mget mem1 (pSlot c x j)) (fun u => mget mem1 (pNode c u 2)) true mem1 [] fr) :=
        ⟨HL1.out, by rw [HD1.out, HRM.out], fun _ _ _ => rfl, List.nodup_nil, by simp, by simp, fun j j0 j1 => by omega, by simp, fun _ => ⟨fun u _ _ => by simp, by rw [show ((fr : Int) - fr).toNat = 0 from by omega]; rfl⟩⟩
      obtain ⟨sl, hsl⟩ : ∃ sl : Int → Int, sl = fun j => mget mem1 (pSlot c x j) := ⟨_, rfl⟩
      obtain ⟨was, hwas⟩ : ∃ was : Int → Int, was = fun u => mget mem1 (pNode c u 2) := ⟨_, rfl⟩
      have HSL : Hid (∀ j, mget mem1 (pSlot c x j) = sl j) := fun j => by rw [hsl]
      have HWAS : Hid (∀ u, mget mem1 (pNode c u 2) = was u) := fun u => by rw [hwas]
      rw [← hsl, ← hwas] at HM0
      clear hsl hwas hs hm' hKr hcfr hc7 hb7 HD1 HT0 HL0 HW0
      have g8 := hcf7.cell 8
      simp only [List.getElem?_cons_zero, List.getElem?_cons_succ] at g8
      go_wp2_with fail
      rw [HMN.out]
      obtain ⟨i0, hi, hz0, hz1, hz2⟩ := info_parts info_int
      have hgn : w7.ownsRow w7.heap.size 3 1 (.slice none 0 0) 0 ([] : List Value) := ⟨rfl, .inl ⟨rfl, rfl⟩⟩
      clear g8
      have hl7 := hs7.lt
      go_loopw [21, 22] (fun wv jv wr => ∃ (n : Nat) (n' : Int), n ≤ en - fr ∧ jv = .int .i64 ((fr : Int) + n) ∧ wr.ownsRow w7.heap.size 3 1 wv (wantN c sl was 3 fr n).length ((wantN c sl was 3 fr n).map (Value.int .i64)) ∧ StoreAt wr bs bl mem1 n' ∧ Chg (fun i => i = bs) w7 wr) (fun _ jv _ => en - (intOf jv).toNat)
      case atStart => exact ⟨0, _, by omega, by simp, hgn, hs7, Chg.refl _ _⟩
      case round =>
        clear hs7 hgn
        obtain ⟨n, n', hn, rfl, own, hs, hc⟩ := hrel
        obtain ⟨ao, co, hwv⟩ := own_slice own
        subst hwv
        have hm' := hm7.below (hc.toBelow (B := w3.heap.size) z7 (fun q hq e => by omega)) (Nat.le_refl _)
        have zr := hc.size
        generalize wr = w8 at *
        by_cases hjn : (fr : Int) + n < en
        · have yj : IntKind.i64.wrap ((fr : Int) + n + 1) = fr + n + 1 := wrap_small (by omega) (by omega)
          obtain ⟨l, hl⟩ : ∃ l : List Int, wantN c sl was 3 fr n = l := ⟨_, rfl⟩
          have hll := wantN_len c sl was 3 fr n
          obtain ⟨t, ht⟩ : ∃ t : Int, sl ((fr : Int) + n) = t := ⟨_, rfl⟩
          have HNO : Hid (¬ (1 ≤ t ∧ t ≤ nN c ∧ was t < 3 ∧ t ∉ l) → wantN c sl was 3 fr (n + 1) = l) := fun h => by
            rw [← hl, ← ht] at h
            rw [wantN_no h, hl]
          have HYES : Hid (1 ≤ t ∧ t ≤ nN c ∧ was t < 3 ∧ t ∉ l → wantN c sl was 3 fr (n + 1) = l ++ [t]) := fun h => by
            rw [← hl, ← ht] at h
            rw [wantN_yes h, hl, ht]
          have HTT : Hid (mget mem1 (pSlot c x ((fr : Int) + n)) = t) := by rw [← ht]; exact HSL.out _
          have htU := mget_all hs.all (pSlot c x ((fr : Int) + n))
          rw [HTT.out] at htU
          unfold U at htU
          have ynn : IntKind.u64.wrap (nn : Int) = nn := by rw [IntKind.wrap_u64]; omega
          rw [hl] at own hll ⊢
          clear hl ht
          have hown : ∀ q, Value.ownBlock (.slice ao l.length co) = some q → w7.heap.size ≤ q := fun q hq => (ownsRow_base own q hq).1
          go_wp2_with fail
          refine (mSlot_any x ((fr : Int) + n) w8 hm' Hg.out.1).mono ?_; rintro e wx ⟨rfl, rfl⟩
          go_wp2_with fail
          refine (load_any (pSlot c x ((fr : Int) + n)) w8 hs).mono ?_; rintro e w9 ⟨rfl, hs9, hc9⟩
          rw [HTT.out]
          have hc9' : Chg (fun i => i = bs) w7 w9 := hc.trans hc9
          have hm9 := hm7.below (hc9'.toBelow (B := w3.heap.size) z7 (fun q hq e => by omega)) (Nat.le_refl _)
          have own9 := ownsRow_chg own hc9 (fun g hg' e => by have := hown g hg'; omega)
          clear hs hc hc9 own hm'
          by_cases ht1 : 1 ≤ t
          · by_cases ht2 : t ≤ nn
            · have yt : IntKind.i64.wrap t = t := wrap_small (by omega) (by omega)
              obtain ⟨mk, hmk⟩ : ∃ mk : Int, was t = mk := ⟨_, rfl⟩
              have HMK : Hid (mget mem1 (pNode c t 2) = mk) := by rw [← hmk]; exact HWAS.out t
              rw [hmk] at HNO HYES
              clear hmk
              by_cases hmk3 : 3 ≤ mk
              · have HN : Hid (wantN c sl was 3 fr (n + 1) = l) := HNO.out (fun h => by omega)
                clear HNO HYES
                go_wp2_with fail
                refine (mNodes_any w9 hm9).mono ?_; rintro e wx ⟨rfl, rfl⟩
                rw [HNN.out]
                go_wp2_with fail
                refine (mMark_any t w9 hm9 Hg.out.1).mono ?_; rintro e wx ⟨rfl, rfl⟩
                go_wp2_with fail
                refine (load_any (pNode c t 2) w9 hs9).mono ?_; rintro e w10 ⟨rfl, hs10, hc10⟩
                rw [HMK.out]
                have own10 := ownsRow_chg own9 hc10 (fun g hg' e => by have := hown g hg'; omega)
                go_wp2_with fail
                go_roundw
                case rel => exact ⟨n + 1, _, by omega, by go_num, by rw [HN.out]; exact own10, hs10, hc9'.trans hc10⟩
                case measure => simp [intOf]; omega
              · have hmk3' : mk < 3 := by omega
                go_wp2_with fail
                refine (mNodes_any w9 hm9).mono ?_; rintro e wx ⟨rfl, rfl⟩
                rw [HNN.out]
                go_wp2_with fail
                refine (mMark_any t w9 hm9 Hg.out.1).mono ?_; rintro e wx ⟨rfl, rfl⟩
                go_wp2_with fail
                refine (load_any (pNode c t 2) w9 hs9).mono ?_; rintro e w10 ⟨rfl, hs10, hc10⟩
                rw [HMK.out]
                have own10 := ownsRow_chg own9 hc10 (fun g hg' e => by have := hown g hg'; omega)
                have hc10' := hc9'.trans hc10
                clear own9 hs9 hc9' hc10 hm9
                go_wp2_with fail
                go_loopw [24, 25] (fun isv qv wr => ∃ (q : Nat) (b : Bool), q ≤ l.length ∧ qv = .int .i64 q ∧ isv = .bool b ∧ Hid (b = decide (t ∈ l.take q)) ∧ wr = w10) (fun _ qv _ => l.length - (intOf qv).toNat)
                case atStart => exact ⟨0, false, by omega, rfl, rfl, by simp [Hid], rfl⟩
                case round =>
                  obtain ⟨q, b, hq, rfl, rfl, HB, rfl⟩ := hrel
                  by_cases hql : (q : Int) < l.length
                  · have hql' : q < l.length := by omega
                    have yq : IntKind.i64.wrap ((q : Int) + 1) = q + 1 := wrap_small (by omega) (by omega)
                    obtain ⟨g, rfl, hck⟩ := own_cell own10 (k := q) (by simpa using hql')
                    rw [List.getElem?_map, List.getElem?_eq_getElem hql', Option.map_some] at hck
                    have HMT : Hid (t ∈ l.take (q + 1) ↔ t ∈ l.take q ∨ l[q] = t) := mem_take_next hql' t
                    obtain ⟨lq, hlq⟩ : ∃ lq : Int, l[q] = lq := ⟨_, rfl⟩
                    rw [hlq] at hck HMT
                    clear hlq
                    cases b
                    · have hno : t ∉ l.take q := by have := HB.out; simpa using this.symm
                      have HNO2 : Hid (t ∉ l.take q) := hno
                      clear hno
                      by_cases hqt : lq = t
                      · have HQT : Hid (lq = t) := hqt
                        subst hqt
                        go_wp2_with fail
                        go_roundw
                        case rel => exact ⟨q + 1, true, by omega, by go_num, rfl, by unfold Hid; rw [decide_eq_true (HMT.out.2 (.inr rfl))], by first | rfl | trivial⟩
                        case measure => simp [intOf]; omega
                      · have hqb : (lq == t) = false := by simpa using hqt
                        have HQT : Hid (lq ≠ t) := hqt
                        go_wp2_with fail
                        go_roundw
                        case rel => exact ⟨q + 1, false, by omega, by go_num, rfl, by unfold Hid; rw [decide_eq_false (fun h => (HMT.out.1 h).elim HNO2.out HQT.out)], by first | rfl | trivial⟩
                        case measure => simp [intOf]; omega
                    · have hyes : t ∈ l.take q := by have := HB.out; simpa using this.symm
                      have HY : Hid (t ∈ l.take q) := hyes
                      clear hyes
                      go_wp2_with fail
                      go_roundw
                      case rel => exact ⟨q + 1, true, by omega, by go_num, rfl, by unfold Hid; rw [decide_eq_true (HMT.out.2 (.inl HY.out))], by first | rfl | trivial⟩
                      case measure => simp [intOf]; omega
                  · have hqe : q = l.length := by omega
                    subst hqe
                    rw [List.take_length] at HB
                    generalize wr = w10 at *
                    have zr10 := hc10'.size
                    cases b
                    · have HN : Hid (wantN c sl was 3 fr (n + 1) = l ++ [t]) := HYES.out ⟨ht1, by rw [HNN.out]; exact ht2, hmk3', by have := HB.out; simpa using this.symm⟩
                      clear HNO HYES HB
                      go_wp2_with (at_builtin; refine wpList_append_lies _ rfl _ _ 25 rfl w7.heap.size 3 i0 (.int .i64 0) 1 8 Tryz.underlying25 hi hz0 hz1 hz2 rfl (by decide) _ _ _ rfl (own10.alloc _) ⟨w10.heap.size, 0, none⟩ 1 1 [.int .i64 t] rfl rfl ?c1 ?c2 (by omega) ?c3 ?c4 ?c5 _ rfl ?_)
                      all_goals first
                        | (intro j u hj; match j, hj with | 0, hj => (simp at hj; subst hj; simp [Addr.add]; done))
                        | (intro u hu; simp at hu; subst hu; rfl)
                        | rfl
                        | (unfold maxLen; omega)
                        | omega
                        | (simp; done)
                        | (simp; omega)
                        | skip
                      intro gb cp w11 own11 hgrow _ _
                      have hc11 : Chg (fun i => i = bs) w7 w11 := (hc10'.alloc _).grown hgrow (fun q hq hq2 => by have := hown q hq; omega)
                      have hs11 : StoreAt w11 bs bl mem1 _ := hs10.chg (((Chg.refl (fun i => w7.heap.size ≤ i) w10).alloc _).grown hgrow (fun q hq _ => hown q hq)) (by omega) (by omega)
                      clear hgrow
                      go_wp2_with fail
                      go_roundw
                      case rel => exact ⟨n + 1, _, by omega, by go_num, by rw [HN.out]; simpa using own11, hs11, hc11⟩
                      case measure => simp [intOf]; omega
                    · have HN : Hid (wantN c sl was 3 fr (n + 1) = l) := HNO.out (fun h => h.2.2.2 (by have := HB.out; simpa using this.symm))
                      clear HNO HYES HB
                      go_wp2_with fail
                      go_roundw
                      case rel => exact ⟨n + 1, _, by omega, by go_num, by rw [HN.out]; exact own10, hs10, hc10'⟩
                      case measure => simp [intOf]; omega
            · have HN : Hid (wantN c sl was 3 fr (n + 1) = l) := HNO.out (fun h => by have := HNN.out; omega)
              clear HNO HYES
              go_wp2_with fail
              refine (mNodes_any w9 hm9).mono ?_; rintro e wx ⟨rfl, rfl⟩
              rw [HNN.out]
              go_wp2_with fail
              go_roundw
              case rel => exact ⟨n + 1, _, by omega, by go_num, by rw [HN.out]; exact own9, hs9, hc9'⟩
              case measure => simp [intOf]; omega
          · have HN : Hid (wantN c sl was 3 fr (n + 1) = l) := HNO.out (fun h => by omega)
            clear HNO HYES
            go_wp2_with fail
            go_roundw
            case rel => exact ⟨n + 1, _, by omega, by go_num, by rw [HN.out]; exact own9, hs9, hc9'⟩
            case measure => simp [intOf]; omega
        · have hne : n = en - fr := by omega
          subst hne
          obtain ⟨wl, hwl⟩ : ∃ wl : List Int, wantN c sl was 3 fr (en - fr) = wl := ⟨_, rfl⟩
          have hwll := wantN_len c sl was 3 fr (en - fr)
          have HWL : Hid (wantN c sl was 3 fr (en - fr) = wl) := hwl
          rw [hwl] at own hwll ⊢
          clear hwl hn
          have hK8 : Kept w w8 := hK7.trans ((hc.toBelow (B := w3.heap.size) z7 (fun q hq e => by omega)).mono (Nat.le_of_lt hW3))
          have hownw : ∀ q, Value.ownBlock (.slice ao wl.length co) = some q → w7.heap.size ≤ q ∧ q < w8.heap.size := fun q hq => ownsRow_base own q hq
          clear hc
          go_wp2_with fail
          refine (mAll_any w8 hs).mono ?_; rintro e w9 ⟨rfl, hba9, hka⟩
          have hs9 := hs.kept hka
          have hm9 := hm'.kept hka (by omega)
          have own9 := ownsRow_kept own hka
          have hK9 : Kept w w9 := hK8.trans' hka
          have z9 : w8.heap.size < w9.heap.size := hba9.lt
          obtain ⟨ba, hba⟩ : ∃ ba, ba = w8.heap.size := ⟨_, rfl⟩
          rw [← hba] at hba9 ⊢
          have hbal : ba < w9.heap.size ∧ w7.heap.size ≤ ba := by omega
          obtain ⟨A, hAn⟩ : ∃ A : Nat, mem1.length = A := ⟨_, rfl⟩
          have HAL : Hid ((A : Int) = allI c) := by rw [← hAn]; exact HL1.out
          rw [hAn]
          have HAN : Hid (mem1.length = A) := hAn
          clear hba hka hs hm' own hK8 hAn
          obtain ⟨hU, hhi, hlo, yx, yf⟩ := task_parts (x := x) (fr := (fr : Int)) (by omega) (by omega) (by omega) (by omega)
          have hx2 : x < 4294967296 := by omega
          have hf2 : (fr : Int) < 4294967296 := by omega
          obtain ⟨tk, htk⟩ : ∃ tk : Int, tk = x * 4294967296 + fr := ⟨_, rfl⟩
          rw [← htk] at hU hhi hlo
          have hls := hs9.lt
          have HTK : Hid (x * 4294967296 + fr = tk) := htk.symm
          clear htk
          have hL0 : Hid (LM c x fr 3 sl was true mem1 (newYS c 0 tk 3) 300 fr false []) := ⟨⟨hhi, hlo, rfl, rfl⟩, rfl, rfl, rfl, rfl, HM0.out, HW1.out, HT1.out⟩
          clear hhi hlo HM0 HT1
          go_wp2_with fail
          refine (pair_any x fr w9 (by omega) hx2 (by omega) hf2).mono ?_; rintro e wx ⟨rfl, rfl⟩
          rw [HTK.out]
          go_wp2_with fail
          refine (scanNew_any (bm := bm) (bs := bs) (bl := bl) (c := c) 0 tk 3 w9 hmk0 hU (by unfold U; omega) hls.1 hls.2).mono ?_; rintro e w10 ⟨sx, rfl, hsx, hsxx, hk10⟩
          have hs10 := hs9.kept hk10
          have hm10 := hm9.kept hk10 (by omega)
          have own10 := ownsRow_kept own9 hk10
          have hba10 := hk10.blk hba9
          have hK10 : Kept w w10 := hK9.trans' hk10
          have z10 : w9.heap.size ≤ w10.heap.size := hk10.size
          have hO10 : ∀ q, NewB w9 w10 q → w9.heap.size ≤ q ∧ q < w10.heap.size := fun q hq => hq
          generalize NewB w9 w10 = O10 at *
          have hinit : LM c x fr 3 sl was true mem1 (newYS c 0 tk 3) 300 fr false [] := hL0.out
          have hp0 : (newYS c 0 tk 3).pc ≠ .done := by intro e; cases e
          have he0 : EvOk (newYS c 0 tk 3).ev := .inl rfl
          have hgn : w10.ownsRow w10.heap.size 3 1 (.slice none 0 0) 0 ([] : List Value) := ⟨rfl, .inl ⟨rfl, rfl⟩⟩
          have hmle := hs10.le
          clear hL0 hs9 hm9 own9 hba9 hk10 hK9
          generalize newYS c 0 tk 3 = ys at *
          go_wp2_with fail
          go_loopw [28, 29, 30] (fun gv lkv kv wr => ∃ (k f lk : Nat) (a : Int) (rg : Bool) (mem' L : List Int) (s : YS) (n' : Int) (O : Nat → Prop), k + f ≤ 300 ∧ kv = .int .i64 k ∧ lkv = .int .i64 lk ∧ lk ≤ k ∧ Hid (a = fr + lk) ∧ L.length ≤ k ∧ s.pc ≠ .done ∧ EvOk s.ev ∧ LM c x fr 3 sl was true mem' s f a rg L ∧ wr.ownsRow w10.heap.size 3 1 gv L.length (L.map (Value.int .i64)) ∧ (∀ g, gv.ownBlock = some g → ¬ O g) ∧ ScAt wr sx bm bs bl c s O ∧ (∀ q, O q → w9.heap.size ≤ q) ∧ StoreAt wr bs bl mem' n' ∧ Chg (fun i => i = bs ∨ i = bl ∨ w9.heap.size ≤ i) w10 wr) (fun _ _ kv _ => 400 - (intOf kv).toNat)
          case atStart => exact ⟨0, 300, 0, fr, false, mem1, [], ys, _, O10, by omega, rfl, rfl, by omega, by simp [Hid], by simp, hp0, he0, hinit, hgn, fun g hg => by simp [Value.ownBlock] at hg, hsx, fun q hq => (hO10 q hq).1, hs10, Chg.refl _ _⟩
          case round =>
            clear hinit hsx hs10 hp0 he0 hO10 hgn
            obtain ⟨k, f, lk, a, rg, mem', L, s, n2, O, hkf, rfl, rfl, hlk, HLK, hLk, hpc, hev, hL, hgo, hgO, hsc, hO, hst, hcr⟩ := hrel
            obtain ⟨ag, cg, hgv⟩ := own_slice hgo
            subst hgv
            have hbr : Below w3.heap.size w10 wr := hcr.toBelow (by omega) (fun q hq e => by omega)
            have hmr := hm10.below hbr (Nat.le_refl _)
            have zk := hcr.size
            have hO3 : ∀ q, O q → w3.heap.size ≤ q := fun q hq => by have := hO q hq; omega
            have D := scStep_any wr Hg.out.1 hsc hst hmr (by omega) hO3 hbs5 hbl5 hev
            obtain ⟨f', a', rg', L', hf', hL', hT⟩ := LM.step Hg.out.1 hv1 ⟨by omega, by rw [HRM.out]; omega⟩ hL hpc
            have hev' := scStep_ev c mem' s
            have hfin := scStep_fin (c := c) (mem := mem') hpc
            have HLAST : Hid (s.pc = .last → (scStep c mem' s).2.ev.k = 4) := fun e => by simp only [scStep, e]
            have HT : Hid (Told (scStep c mem' s).2.ev a a' L L') := hT
            have HL : Hid (LM c x fr 3 sl was true (scStep c mem' s).1 (scStep c mem' s).2 f' a' rg' L') := hL'
            have HE : Hid (EvOk (scStep c mem' s).2.ev) := hev'
            have HO : Hid (∀ q, O q → w9.heap.size ≤ q) := hO
            have HGO : Hid (∀ g, Value.ownBlock (.slice ag L.length cg) = some g → ¬ O g) := hgO
            clear hT hL' hev' hO hO3 hgO hL hpc
            generalize hq1 : (scStep c mem' s).1 = mem2 at *
            generalize hq2 : (scStep c mem' s).2 = s2 at *
            clear hq1 hq2
            have hk400 : (k : Int) < 400 := by omega
            have yk : IntKind.i64.wrap ((k : Int) + 1) = k + 1 := wrap_small (by omega) (by omega)
            have hgb : ∀ g, Value.ownBlock (.slice ag L.length cg) = some g → w10.heap.size ≤ g ∧ g < wr.heap.size := fun g hg => ownsRow_base hgo g hg
            by_cases hlast : s.pc = .last
            · rw [decide_eq_true hlast] at hfin
              rw [hfin] at D
              have HD : Hid (s2.pc = .done) := yfin_iff.1 hfin
              have h4 := HLAST.out hlast
              have HLL : Hid (L' = L ∧ a' = a) := by
                rcases HT.out with h | h | h
                · exact absurd (h.1.symm.trans h4) (by decide)
                · exact absurd (h.1.symm.trans h4) (by decide)
                · exact h.2.2
              clear hlast hfin HLAST h4
              obtain ⟨ga, gr, hM, hwk⟩ := LM.atDone HL.out HD.out
              obtain ⟨hLL, haa⟩ := HLL.out
              rw [hLL, ga, HEN.out] at hM
              rw [hLL, gr, HEN.out, HRM.out] at hwk
              have hlke : (en : Int) - fr = lk := by have h := HLK.out; rw [← haa, ga, HEN.out] at h; omega
              have hLw : L = wl := by
                have h := (hM.ex rfl).2
                rw [show ((en : Int) - fr).toNat = en - fr from by omega, HWL.out] at h
                exact h
              subst hLw
              have HMX : Hid (∀ u : Int, 1 ≤ u → u ≤ nN c → mget mem2 (pNode c u 2) = if u ∈ L then 3 else was u) := (hM.ex rfl).1
              have HND : Hid L.Nodup := hM.nd
              have HRG : Hid (∀ u ∈ L, 1 ≤ u ∧ u ≤ nN c) := hM.rng
              have HWS : Hid (∀ u ∈ L, was u < 3) := by
                unfold Hid; rw [← HWL.out]; exact wantN_mem
              have HWK : Hid (mget mem2 1 = addI (rgI (decide ((en : Int) < rm)) + L.length) 18446744073709551615) := hwk
              have HLKE : Hid ((en : Int) - fr = lk) := hlke
              have yef : IntKind.i64.wrap ((en : Int) - fr) = lk := by rw [hlke]; exact wrap_small (by omega) (by omega)
              clear ga gr hM hwk hLL haa HL HT HLL HLK hlke HWL
              go_wp2_with fail
              refine D.mono ?_; rintro e w11 ⟨rfl, hsc2, hs11, hc2⟩
              have z11 := hc2.size
              have hl11 := hs11.lt
              have hlr := hst.lt
              have hc11 : Chg (fun i => i = bs ∨ i = bl ∨ w9.heap.size ≤ i) w10 w11 := hcr.thenNew hc2 (fun q _ e => by rcases e with e | e | e; exact .inr (.inr (HO.out q e)); exact .inl e; exact .inr (.inl e))
              have hgo2 := ownsRow_chg hgo hc2 (fun g hg e => by
                have h1 := hgb g hg
                rcases e with e | e | e
                · exact HGO.out g hg e
                · omega
                · omega)
              have HGO2 : Hid (∀ g, Value.ownBlock (.slice ag L.length cg) = some g → ¬ Grow O wr w11 g) := fun g hg e => by
                have h1 := hgb g hg
                rcases e with e | e
                · exact HGO.out g hg e
                · omega
              have hO2 : ∀ q, Grow O wr w11 q → w9.heap.size ≤ q := by
                rintro q (e | e)
                · exact HO.out q e
                · omega
              have hgb2 : ∀ g, Value.ownBlock (.slice ag L.length cg) = some g → w10.heap.size ≤ g ∧ g < w11.heap.size := fun g hg => ownsRow_base hgo2 g hg
              generalize Grow O wr w11 = O2 at *
              have hb11 : Below w3.heap.size w10 w11 := hc11.toBelow (by omega) (fun q hq e => by omega)
              have D2 := scStep_any w11 Hg.out.1 hsc2 hs11 (hm10.below hb11 (Nat.le_refl _)) (by omega) (fun q hq => by have := hO2 q hq; omega) hbs5 hbl5 HE.out
              rw [scStep_done HD.out] at D2
              simp only [YS.clear] at D2
              rw [show YPc.fin (s2.pc) = true from by rw [HD.out]; rfl] at D2
              clear D hcr hgo hst hsc hmr hbr hc2 HO HGO hgb hb11 hev
              go_wp2_with fail
              refine D2.mono ?_; rintro e w12 ⟨rfl, _, hs12, hc12⟩
              have z12 := hc12.size
              have hgo12 := ownsRow_chg hgo2 hc12 (fun g hg e => by
                have h1 := hgb2 g hg
                rcases e with e | e | e
                · exact HGO2.out g hg e
                · omega
                · omega)
              have hcc12 : Chg (fun i => i = bs ∨ i = bl ∨ w9.heap.size ≤ i) w10 w12 := hc11.trans (hc12.mono (fun q _ e => by rcases e with e | e | e; exact .inr (.inr (hO2 q e)); exact .inl e; exact .inr (.inl e)))
              have hbb12 := hcc12.blk hba10 (show ¬ (ba = bs ∨ ba = bl ∨ w9.heap.size ≤ ba) by omega)
              have hww12 := ownsRow_chg own10 hcc12 (fun g hg e => by have := hownw g hg; omega)
              have hb12 : Below w3.heap.size w10 w12 := hcc12.toBelow (by omega) (fun q hq e => by omega)
              have hm12 := hm10.below hb12 (Nat.le_refl _)
              have hK12 : Kept w w12 := hK10.trans (hb12.mono (Nat.le_of_lt hW3))
              clear D2 hs11 hc11 hgo2 hsc2 hc12 HGO2 hO2 hcc12 hb12 own10 hba10
              go_wp2_with fail
              go_loopw [31] (fun jv wr => ∃ (j : Nat) (n' : Int), j ≤ L.length ∧ jv = .int .i64 j ∧ StoreAt wr bs bl mem2 n' ∧ Chg (fun i => i = bs) w12 wr) (fun jv _ => L.length - (intOf jv).toNat)
              case atStart => exact ⟨0, _, by omega, rfl, hs12, Chg.refl _ _⟩
              case round =>
                clear hs12
                obtain ⟨j, n3, hj, rfl, hs, hc⟩ := hrel
                have hgo := ownsRow_chg hgo12 hc (fun g hg e => by have := hgb2 g hg; omega)
                have hww := ownsRow_chg hww12 hc (fun g hg e => by have := hownw g hg; omega)
                have hm' := hm12.below (hc.toBelow (B := w3.heap.size) (by omega) (fun q hq e => by omega)) (Nat.le_refl _)
                have zr := hc.size
                by_cases hjl : (j : Int) < L.length
                · have hjl' : j < L.length := by omega
                  have yj : IntKind.i64.wrap ((j : Int) + 1) = j + 1 := wrap_small (by omega) (by omega)
                  obtain ⟨g1, rfl, hk1⟩ := own_cell hgo (k := j) (by simpa using hjl')
                  obtain ⟨g2, rfl, hk2⟩ := own_cell hww (k := j) (by simpa using hjl')
                  rw [List.getElem?_map, List.getElem?_eq_getElem hjl', Option.map_some] at hk1 hk2
                  have hmem : L[j] ∈ L := List.getElem_mem _
                  have hrg := HRG.out _ hmem
                  have hmk := HMX.out _ hrg.1 hrg.2
                  rw [if_pos hmem] at hmk
                  generalize L[j] = u at *
                  have HMK : Hid (mget mem2 (pNode c u 2) = 3) := hmk
                  have hgb1 := hgb2 g1 (by simp [Value.ownBlock])
                  have hgb3 := hownw g2 (by simp [Value.ownBlock])
                  clear hmk hmem hrg
                  go_wp2_with fail
                  go_region_held3 (fun w' => w'.cell? ⟨g1, j, none⟩ = some (.int .i64 u) ∧ w'.cell? ⟨g2, j, none⟩ = some (.int .i64 u))
                    (first | exact ⟨hk1, hk2⟩ | exact ⟨j1, j2⟩)
                    (first
                     | (go_at_call 17; refine (mMark_any u _ hm'.drew Hg.out.1).mono ?_; rintro e wx ⟨rfl, rfl⟩)
                     | (go_at_call 41; refine (load_any (pNode c u 2) _ hs.drew).mono ?_; rintro e w13 ⟨rfl, hs13, hc13⟩
                        rw [HMK.out]
                        have j1 : w13.cell? ⟨g1, j, none⟩ = some (.int .i64 u) := by rw [hc13.cell (show ¬ g1 = bs by omega) (lt_of_cell hk1)]; exact hk1
                        have j2 : w13.cell? ⟨g2, j, none⟩ = some (.int .i64 u) := by rw [hc13.cell (show ¬ g2 = bs by omega) (lt_of_cell hk2)]; exact hk2))
                  all_goals
                    have hc14 : Chg (fun i => i = bs) w12 w13 := hc.trans ((Chg.refl _ wr).drew.trans hc13)
                    go_wp2_with fail
                    go_roundw
                  case rel => exact ⟨j + 1, _, by omega, by go_num, hs13, hc14⟩
                  case measure => simp [intOf]; omega
                · have hje : j = L.length := by omega
                  have hK13 : Kept w wr := hK12.trans ((hc.toBelow (B := w3.heap.size) (by omega) (fun q hq e => by omega)).mono (Nat.le_of_lt hW3))
                  have hbb := hc.blk hbb12 (show ¬ ba = bs by omega)
                  have HBB : Hid (Blk wr ba 26 (mem1.map (Value.int .u64))) := hbb
                  clear hje hww hgo hww12 hgo12 hbb12 hm12 hK12 hc hbb
                  generalize wr = w14 at *
                  obtain ⟨M, hM⟩ : ∃ M : Int, M = if (en : Int) < rm then (L.length : Int) + 1 else L.length := ⟨_, rfl⟩
                  have HXW : Hid (mget mem2 1 = IntKind.u64.wrap (M - 1)) := by
                    unfold Hid
                    rw [HWK.out, hM, IntKind.wrap_u64]
                    by_cases h : (en : Int) < rm
                    · rw [decide_eq_true h, if_pos h]; unfold addI rgI; simp; omega
                    · rw [decide_eq_false h, if_neg h]; unfold addI rgI; simp; omega
                  have hM0 : 0 ≤ M ∧ M ≤ 500 := by rw [hM]; split <;> omega
                  by_cases hlt : (en : Int) < rm
                  case' pos =>
                    rw [if_pos hlt] at hM
                    have yln : IntKind.u64.wrap (L.length : Int) = L.length := by rw [IntKind.wrap_u64]; omega
                    have yln1 : IntKind.u64.wrap ((L.length : Int) + 1) = M := by rw [IntKind.wrap_u64]; omega
                    clear hM
                    go_wp2_with fail
                  case' neg =>
                    rw [if_neg hlt] at hM
                    have yln : IntKind.u64.wrap (L.length : Int) = M := by rw [IntKind.wrap_u64]; omega
                    clear hM
                    go_wp2_with fail
                  all_goals
                    have hl14 := hs.lt
                    go_loopw [33, 34] (fun cv uv wr => ∃ (u cn : Nat) (n' : Int), 1 ≤ u ∧ u ≤ nn + 1 ∧ uv = .int .i64 u ∧ cv = .int .i64 cn ∧ cn ≤ u ∧ Hid (cn = cntL L u) ∧ StoreAt wr bs bl mem2 n' ∧ Chg (fun i => i = bs) w14 wr) (fun _ uv _ => nn + 1 - (intOf uv).toNat)
                    case atStart => exact ⟨1, 0, _, by omega, by omega, rfl, rfl, by omega, (cntL_none (fun y hy => (HRG.out y hy).1)).symm, hs, Chg.refl _ _⟩
                    case round =>
                      clear hs
                      obtain ⟨u, cn, n4, hu1, hu2, rfl, rfl, hcu, HCN, hs, hc⟩ := hrel
                      have zr := hc.size
                      have hmr := hm'.below (hc.toBelow (B := w3.heap.size) (by omega) (fun q hq e => by omega)) (Nat.le_refl _)
                      have hKr : Kept w wr := hK13.trans ((hc.toBelow (B := w3.heap.size) (by omega) (fun q hq e => by omega)).mono (Nat.le_of_lt hW3))
                      have hbbr := hc.blk HBB.out (show ¬ ba = bs by omega)
                      by_cases hun : (u : Int) ≤ nn
                      · have hv2 : 1 ≤ (u : Int) ∧ (u : Int) ≤ nN c := by rw [HNN.out]; omega
                        have yu : IntKind.i64.wrap ((u : Int) + 1) = u + 1 := wrap_small (by omega) (by omega)
                        have ycn : IntKind.i64.wrap ((cn : Int) + 1) = cn + 1 := wrap_small (by omega) (by omega)
                        have hmp := mark_place Hg.out.1 hv2
                        obtain ⟨pn, hpn⟩ : ∃ pn : Nat, pNode c u 2 = pn := ⟨(pNode c u 2).toNat, by omega⟩
                        have HPN : Hid (pNode c u 2 = pn) := hpn
                        have hpA : pn < A := by have := HAL.out; omega
                        have hbc := hbbr.cell pn
                        rw [List.getElem?_map, List.getElem?_eq_getElem (by have := HAN.out; omega), Option.map_some, show mem1[pn]'(by have := HAN.out; omega) = mget mem1 (pn : Int) from (mget_nat (by have := HAN.out; omega)).symm] at hbc
                        have hm1 : mget mem1 (pn : Int) = was u := by rw [← hpn]; exact HWAS.out u
                        have hm2 := HMX.out u hv2.1 hv2.2
                        rw [hpn] at hm2
                        rw [hm1] at hbc
                        have hcn2 := cntL_next HND.out u
                        by_cases hin : (u : Int) ∈ L
                        · have hw3 := HWS.out _ hin
                          rw [if_pos hin] at hm2 hcn2
                          have HM2 : Hid (mget mem2 (pn : Int) = 3) := hm2
                          have HC2 : Hid (cntL L ((u : Int) + 1) = cntL L u + 1) := hcn2
                          generalize was u = wu at *
                          have hwn1 : ¬ (3 : Int) = wu := by omega
                          have hwn2 : ¬ wu = (3 : Int) := by omega
                          have hwne : ((3 : Int) == wu) = false := by simpa using hwn1
                          have hwnb : ((3 : Int) != wu) = true := by simpa using hwn1
                          have hwnd : decide ((3 : Int) = wu) = false := decide_eq_false hwn1
                          clear hm1 hm2 hcn2 hin hpn hmp
                          go_wp2_with fail
                          refine (mNodes_any wr hmr).mono ?_; rintro e wx ⟨rfl, rfl⟩
                          rw [HNN.out]
                          go_wp2_with fail
                          refine (mMark_any u wr hmr Hg.out.1).mono ?_; rintro e wx ⟨rfl, rfl⟩
                          rw [HPN.out]
                          go_wp2_with fail
                          refine (load_any pn wr hs).mono ?_; rintro e w15 ⟨rfl, hs15, hc15⟩
                          rw [HM2.out]
                          have hm15 := hmr.below (hc15.toBelow (B := w3.heap.size) (by omega) (fun q hq e => by omega)) (Nat.le_refl _)
                          have hbc15 : w15.cell? ⟨ba, pn, none⟩ = some (.int .u64 wu) := by rw [hc15.cell (show ¬ ba = bs by omega) hbbr.lt]; exact hbc
                          clear hbc hbbr hs hmr
                          go_wp2_with fail
                          refine (mMark_any u w15 hm15 Hg.out.1).mono ?_; rintro e wx ⟨rfl, rfl⟩
                          rw [HPN.out]
                          go_wp2_with fail
                          go_roundw
                          case rel => exact ⟨u + 1, cn + 1, _, by omega, by omega, by go_num, by go_num, by omega, by have h := HC2.out; have h' := HCN.out; unfold Hid; rw [show ((u + 1 : Nat) : Int) = (u : Int) + 1 from by omega, h, h'], hs15, hc.trans hc15⟩
                          case measure => simp [intOf]; omega
                        · rw [if_neg hin] at hm2 hcn2
                          have HM2 : Hid (mget mem2 (pn : Int) = was u) := hm2
                          have HC2 : Hid (cntL L ((u : Int) + 1) = cntL L u) := hcn2
                          generalize was u = wu at *
                          clear hm1 hm2 hcn2 hin hpn hmp
                          go_wp2_with fail
                          refine (mNodes_any wr hmr).mono ?_; rintro e wx ⟨rfl, rfl⟩
                          rw [HNN.out]
                          go_wp2_with fail
                          refine (mMark_any u wr hmr Hg.out.1).mono ?_; rintro e wx ⟨rfl, rfl⟩
                          rw [HPN.out]
                          go_wp2_with fail
                          refine (load_any pn wr hs).mono ?_; rintro e w15 ⟨rfl, hs15, hc15⟩
                          rw [HM2.out]
                          have hm15 := hmr.below (hc15.toBelow (B := w3.heap.size) (by omega) (fun q hq e => by omega)) (Nat.le_refl _)
                          have hbc15 : w15.cell? ⟨ba, pn, none⟩ = some (.int .u64 wu) := by rw [hc15.cell (show ¬ ba = bs by omega) hbbr.lt]; exact hbc
                          clear hbc hbbr hs hmr
                          go_wp2_with fail
                          refine (mMark_any u w15 hm15 Hg.out.1).mono ?_; rintro e wx ⟨rfl, rfl⟩
                          rw [HPN.out]
                          go_wp2_with fail
                          go_roundw
                          case rel => exact ⟨u + 1, cn, _, by omega, by omega, by go_num, rfl, by omega, by have h := HC2.out; have h' := HCN.out; unfold Hid; rw [show ((u + 1 : Nat) : Int) = (u : Int) + 1 from by omega, h, h'], hs15, hc.trans hc15⟩
                          case measure => simp [intOf]; omega
                      · have hunN : ¬ u ≤ nn := by omega
                        have hund : decide (u ≤ nn) = false := decide_eq_false hunN
                        have hun' : u = nn + 1 := by omega
                        have hcl : cn = L.length := by
                          have h := HCN.out
                          rw [hun', cntL_all (fun y hy => by have := (HRG.out y hy).2; rw [HNN.out] at this; omega)] at h
                          exact h
                        subst hcl
                        obtain ⟨X, hX⟩ : ∃ X : Int, mget mem2 1 = X := ⟨_, rfl⟩
                        have HX1 : Hid (mget mem2 1 = X) := hX
                        have yM : IntKind.u64.wrap M = M := by rw [IntKind.wrap_u64]; omega
                        have yM0 : IntKind.u64.wrap (0 + M) = M := by rw [IntKind.wrap_u64]; omega
                        have yM1 : IntKind.u64.wrap (M - 1) = X := by rw [← hX]; exact HXW.out.symm
                        have hbc := hbbr.cell 1
                        have hA1 : 1 < A := by have := HAL.out; omega
                        rw [List.getElem?_map, List.getElem?_eq_getElem (by have := HAN.out; omega), Option.map_some, show mem1[1]'(by have := HAN.out; omega) = mget mem1 ((1 : Nat) : Int) from (mget_nat (by have := HAN.out; omega)).symm, show mget mem1 ((1 : Nat) : Int) = 0 from HW1.out] at hbc
                        clear hX hun' HCN hcu hu2
                        go_wp2_with fail
                        refine (mNodes_any wr hmr).mono ?_; rintro e wx ⟨rfl, rfl⟩
                        rw [HNN.out]
                        go_wp2_with fail
                        refine (mWork_any bm wr).mono ?_; rintro e wx ⟨rfl, rfl⟩
                        go_wp2_with fail
                        refine (load_any 1 wr hs).mono ?_; rintro e w15 ⟨rfl, hs15, hc15⟩
                        rw [HX1.out]
                        have hbc15 : w15.cell? ⟨ba, 1, none⟩ = some (.int .u64 0) := by rw [hc15.cell (show ¬ ba = bs by omega) hbbr.lt]; exact hbc
                        have hK15 : Kept w w15 := hKr.trans ((hc15.toBelow (B := w3.heap.size) (by omega) (fun q hq e => by omega)).mono (Nat.le_of_lt hW3))
                        clear hbc hbbr hs hmr
                        go_wp2_with fail
                        refine (mWork_any bm w15).mono ?_; rintro e wx ⟨rfl, rfl⟩
                        go_wp2_with fail
                        go_ret
                        exact ⟨rfl, hK15⟩
            · rw [decide_eq_false hlast] at hfin
              rw [hfin] at D
              have HD : Hid (s2.pc ≠ .done) := fun e => by rw [e] at hfin; cases hfin
              clear hlast hfin HLAST
              go_wp2_with fail
              refine D.mono ?_; rintro e w11 ⟨rfl, hsc2, hs11, hc2⟩
              have z11 := hc2.size
              have hl11 := hs11.lt
              have hlr := hst.lt
              have hc11 : Chg (fun i => i = bs ∨ i = bl ∨ w9.heap.size ≤ i) w10 w11 := hcr.thenNew hc2 (fun q _ e => by rcases e with e | e | e; exact .inr (.inr (HO.out q e)); exact .inl e; exact .inr (.inl e))
              have hgo2 := ownsRow_chg hgo hc2 (fun g hg e => by
                have h1 := hgb g hg
                rcases e with e | e | e
                · exact HGO.out g hg e
                · omega
                · omega)
              have HGO2 : Hid (∀ g, Value.ownBlock (.slice ag L.length cg) = some g → ¬ Grow O wr w11 g) := fun g hg e => by
                have h1 := hgb g hg
                rcases e with e | e
                · exact HGO.out g hg e
                · omega
              have hO2 : ∀ q, Grow O wr w11 q → w9.heap.size ≤ q := by
                rintro q (e | e)
                · exact HO.out q e
                · omega
              have HO2 : Hid (∀ q, Grow O wr w11 q → w9.heap.size ≤ q) := hO2
              have hgb2 : ∀ g, Value.ownBlock (.slice ag L.length cg) = some g → w10.heap.size ≤ g ∧ g < w11.heap.size := fun g hg => ownsRow_base hgo2 g hg
              generalize Grow O wr w11 = O2 at *
              clear D hcr hgo hst hsc hmr hbr hc2 HO HGO hO2 hgb
              have hevk := ev_kind
              have heva := ev_a
              have hz11 : w9.heap.size ≤ w11.heap.size := by omega
              have hlen400 : L.length ≤ 400 := by omega
              rcases HT.out with ⟨h1, h2, h3⟩ | ⟨h1, h2, h3⟩ | ⟨h1, h2, h3, h4⟩
              · have E : ∀ W, ScAt W sx bm bs bl c s2 O2 → Calls Tryz.prog 40 #[.pointer (some ⟨sx, 0, none⟩)] W fun r w' => r = .returned (.agg #[.int .i64 1, .int .i64 s2.ev.who, .int .i64 s2.ev.a, .int .i64 s2.ev.b, .int .i64 s2.ev.c]) ∧ Kept W w' := fun W h => by
                  have := scEvent_any W h; rw [h1] at this; exact this
                obtain ⟨ea, hea⟩ : ∃ ea : Int, s2.ev.a = ea := ⟨_, rfl⟩
                rw [hea] at E h2
                have HL2 : Hid (L' = L ++ [ea]) := h2
                have HA2 : Hid (a' = a) := h3
                clear h1 h2 h3 hea HT
                generalize s2.ev = ev at E
                go_wp2_with fail
                refine (E w11 hsc2).mono ?_; rintro e w12 ⟨rfl, hk12⟩
                have hsc3 := hsc2.kept hk12
                have hs12 := hs11.kept hk12
                have hc12 : Chg (fun i => i = bs ∨ i = bl ∨ w9.heap.size ≤ i) w10 w12 := hc11.trans (Chg.ofBelow hk12)
                have hgo3 := ownsRow_kept hgo2 hk12
                have z12 := hk12.size
                clear hsc2 hs11 hc11 hgo2 hk12
                go_wp2_with fail
                refine (E w12 hsc3).mono ?_; rintro e w13 ⟨rfl, hk13⟩
                have hsc4 := hsc3.kept hk13
                have hs13 := hs12.kept hk13
                have hc13 : Chg (fun i => i = bs ∨ i = bl ∨ w9.heap.size ≤ i) w10 w13 := hc12.trans (Chg.ofBelow hk13)
                have hgo4 := ownsRow_kept hgo3 hk13
                have z13 := hk13.size
                have hoo := hsc4.own
                have HOO : Hid (∀ k, O2 k → k < w13.heap.size ∧ k ≠ bs ∧ k ≠ bl) := hoo
                clear hsc3 hs12 hc12 hgo3 hk13 hoo
                go_wp2_with (at_builtin; refine wpList_append_lies _ rfl _ _ 25 rfl w10.heap.size 3 i0 (.int .i64 0) 1 8 Tryz.underlying25 hi hz0 hz1 hz2 rfl (by decide) _ _ _ rfl (hgo4.alloc _) ⟨w13.heap.size, 0, none⟩ 1 1 [.int .i64 ea] rfl rfl ?d1 ?d2 (by omega) ?d3 ?d4 ?d5 _ rfl ?_)
                all_goals first
                  | (intro j u hj; match j, hj with | 0, hj => (simp at hj; subst hj; simp [Addr.add]; done))
                  | (intro u hu; simp at hu; subst hu; rfl)
                  | rfl
                  | (unfold maxLen; omega)
                  | omega
                  | (simp; done)
                  | (simp; omega)
                  | skip
                intro gb cp w14 own14 hgrow hlie hgl
                have hc14 : Chg (fun i => i = bs ∨ i = bl ∨ w9.heap.size ≤ i) w10 w14 := (hc13.alloc _).grown hgrow (fun q hq hq2 => by have := hgb2 q hq; omega)
                have hca : Chg (fun q => Value.ownBlock (.slice ag L.length cg) = some q) w13 w14 := ((Chg.refl _ w13).alloc _).grown hgrow (fun q hq _ => hq)
                have hs14 : StoreAt w14 bs bl mem2 _ := hs13.chg hca (fun e => by have := hgb2 _ e; omega) (fun e => by have := hgb2 _ e; omega)
                have hsc5 : ScAt w14 sx bm bs bl c s2 O2 := hsc4.chg hca (fun q hq e => HGO2.out q e hq)
                have HG5 : Hid (∀ g, Value.ownBlock (.slice (some ⟨gb, 0, none⟩) (L.length + 1) cp) = some g → ¬ O2 g) := fun g hg e => by
                  simp [Value.ownBlock] at hg
                  subst hg
                  rcases hlie with h | h
                  · exact HGO2.out _ h e
                  · have := HOO.out _ e
                    first
                      | omega
                      | (simp at h; omega)
                clear hgrow hca hlie hs13 hsc4 hc13 hgo4 hgb2
                have z14 := hc14.size
                go_wp2_with fail
                refine (E w14 hsc5).mono ?_; rintro e w15 ⟨rfl, hk15⟩
                have hsc6 := hsc5.kept hk15
                have hs15 := hs14.kept hk15
                have hc15 : Chg (fun i => i = bs ∨ i = bl ∨ w9.heap.size ≤ i) w10 w15 := hc14.trans (Chg.ofBelow hk15)
                have own15 := ownsRow_kept own14 hk15
                clear E hsc5 hs14 hc14 own14 hk15
                go_wp2_with fail
                go_roundw
                case rel =>
                  refine ⟨k + 1, f', lk, a', rg', mem2, L', s2, _, O2, by omega, by go_num, rfl, by omega, by rw [HA2.out]; exact HLK.out, by rw [HL2.out]; simp; omega, HD.out, HE.out, HL.out, ?_, HG5.out, hsc6, HO2.out, hs15, hc15⟩
                  rw [HL2.out]
                  simpa using own15
                case measure => simp [intOf]; omega
              · have E : ∀ W, ScAt W sx bm bs bl c s2 O2 → Calls Tryz.prog 40 #[.pointer (some ⟨sx, 0, none⟩)] W fun r w' => r = .returned (.agg #[.int .i64 3, .int .i64 s2.ev.who, .int .i64 s2.ev.a, .int .i64 s2.ev.b, .int .i64 s2.ev.c]) ∧ Kept W w' := fun W h => by
                  have := scEvent_any W h; rw [h1] at this; exact this
                have HL2 : Hid (L' = L) := h2
                have HA2 : Hid (a' = a + 1) := h3
                have ylk : IntKind.i64.wrap ((lk : Int) + 1) = lk + 1 := wrap_small (by omega) (by omega)
                clear h1 h2 h3 HT
                generalize s2.ev = ev at E
                go_wp2_with fail
                refine (E w11 hsc2).mono ?_; rintro e w12 ⟨rfl, hk12⟩
                have hsc3 := hsc2.kept hk12
                have hs12 := hs11.kept hk12
                have hc12 : Chg (fun i => i = bs ∨ i = bl ∨ w9.heap.size ≤ i) w10 w12 := hc11.trans (Chg.ofBelow hk12)
                have hgo3 := ownsRow_kept hgo2 hk12
                clear hsc2 hs11 hc11 hgo2 hk12
                go_wp2_with fail
                refine (E w12 hsc3).mono ?_; rintro e w13 ⟨rfl, hk13⟩
                have hsc4 := hsc3.kept hk13
                have hs13 := hs12.kept hk13
                have hc13 : Chg (fun i => i = bs ∨ i = bl ∨ w9.heap.size ≤ i) w10 w13 := hc12.trans (Chg.ofBelow hk13)
                have hgo4 := ownsRow_kept hgo3 hk13
                clear E hsc3 hs12 hc12 hgo3 hk13
                go_wp2_with fail
                go_roundw
                case rel => exact ⟨k + 1, f', lk + 1, a', rg', mem2, L', s2, _, O2, by omega, by go_num, by first | rfl | go_num, by omega, by have h := HLK.out; have h' := HA2.out; unfold Hid; omega, by rw [HL2.out]; omega, HD.out, HE.out, HL.out, by rw [HL2.out]; exact hgo4, by rw [show L.length = L.length from rfl]; exact HGO2.out, hsc4, HO2.out, hs13, hc13⟩
                case measure => simp [intOf]; omega
              · have hb1 : (s2.ev.k == 1) = false := by simpa using h1
                have hb3 : (s2.ev.k == 3) = false := by simpa using h2
                have HL2 : Hid (L' = L) := h3
                have HA2 : Hid (a' = a) := h4
                have E : ∀ W, ScAt W sx bm bs bl c s2 O2 → Calls Tryz.prog 40 #[.pointer (some ⟨sx, 0, none⟩)] W fun r w' => r = .returned (.agg #[.int .i64 s2.ev.k, .int .i64 s2.ev.who, .int .i64 s2.ev.a, .int .i64 s2.ev.b, .int .i64 s2.ev.c]) ∧ Kept W w' := fun W h => scEvent_any W h
                clear h1 h2 h3 h4 HT
                generalize s2.ev = ev at E hb1 hb3
                go_wp2_with fail
                refine (E w11 hsc2).mono ?_; rintro e w12 ⟨rfl, hk12⟩
                have hsc3 := hsc2.kept hk12
                have hs12 := hs11.kept hk12
                have hc12 : Chg (fun i => i = bs ∨ i = bl ∨ w9.heap.size ≤ i) w10 w12 := hc11.trans (Chg.ofBelow hk12)
                have hgo3 := ownsRow_kept hgo2 hk12
                clear hsc2 hs11 hc11 hgo2 hk12
                go_wp2_with fail
                refine (E w12 hsc3).mono ?_; rintro e w13 ⟨rfl, hk13⟩
                have hsc4 := hsc3.kept hk13
                have hs13 := hs12.kept hk13
                have hc13 : Chg (fun i => i = bs ∨ i = bl ∨ w9.heap.size ≤ i) w10 w13 := hc12.trans (Chg.ofBelow hk13)
                have hgo4 := ownsRow_kept hgo3 hk13
                clear E hsc3 hs12 hc12 hgo3 hk13
                go_wp2_with fail
                go_roundw
                case rel => exact ⟨k + 1, f', lk, a', rg', mem2, L', s2, _, O2, by omega, by go_num, rfl, by omega, by rw [HA2.out]; exact HLK.out, by rw [HL2.out]; omega, HD.out, HE.out, HL.out, by rw [HL2.out]; exact hgo4, HGO2.out, hsc4, HO2.out, hs13, hc13⟩
                case measure => simp [intOf]; omega

end Go.Proofs.YtapdpclgbpgklaaGreat
