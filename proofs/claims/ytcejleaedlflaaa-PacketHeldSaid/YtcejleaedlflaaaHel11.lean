/- All tasks in the pool are the document's: walked. -/
import Derived.Test.YtcejleaedlflaaaRefH
import Derived.Test.YtcejleaedlflaaaAw11
import Derived.Test.YtcejleaedlflaaaSm11
import Derived.Test.YtcejleaedlflaaaPok11
import Derived.Test.YtcejleaedlflaaaRegion
import Derived.Deep.QuietTactic
import Derived.BigQuiet
namespace Go.Proofs.Ytcejleaedlflaaa
open Go.RowKit

set_option maxRecDepth 8000 in
set_option maxHeartbeats 3200000 in
theorem held11_any (c : Cfg) (vp : Value) (ts : List Int) (vk : Value) (ps : List (Int × Int)) (w : World) (hp : Words w vp ts) (hk : Pokes w vk ps) :
    Calls Try.prog 3 #[.agg #[.int .i64 c.c0, .int .i64 c.c1, .int .i64 c.c2, .int .i64 c.c3, .int .i64 c.c4, .int .i64 c.mks, .int .i64 c.mus, .int .i64 c.dq, .int .i64 c.ch, .int .i64 c.bu, .int .i64 c.ro, .int .i64 c.sw], vp, vk] w fun e w' => e = .returned (.bool true) ∧ Kept w w' := by
  have hpr := hp.reads
  obtain ⟨ao, cap, hvp⟩ := hpr.form
  rw [List.length_map] at hvp
  subst hvp
  obtain ⟨ak, ck, hvk⟩ := hk.form
  subst hvk
  have hu := hp.1
  have HP : Hid (∀ W, Kept w W → Reads W (.slice ao ts.length cap) (ts.map (Value.int .u64))) := fun W k => hpr.kept k
  have HK : Hid (∀ W, Kept w W → Pokes W (.slice ak ps.length ck) ps) := fun W k => hk.kept k
  have HU : Hid (∀ x ∈ ts, U x) := hu
  clear hp hpr hk hu
  obtain ⟨tl, htl⟩ : ∃ tl, tl = ts.length := ⟨_, rfl⟩
  obtain ⟨pl, hpl⟩ : ∃ pl, pl = ps.length := ⟨_, rfl⟩
  have HTL : Hid (tl = ts.length) := htl
  have HPL : Hid (pl = ps.length) := hpl
  rw [← htl] at HP ⊢
  rw [← hpl] at HK ⊢
  clear htl hpl
  have hb := Blk.new w 24 [.int .i64 c.c0, .int .i64 c.c1, .int .i64 c.c2, .int .i64 c.c3, .int .i64 c.c4, .int .i64 c.mks, .int .i64 c.mus, .int .i64 c.dq, .int .i64 c.ch, .int .i64 c.bu, .int .i64 c.ro, .int .i64 c.sw]
  have hk0 : Kept w (w.alloc (.cells ([.int .i64 c.c0, .int .i64 c.c1, .int .i64 c.c2, .int .i64 c.c3, .int .i64 c.c4, .int .i64 c.mks, .int .i64 c.mus, .int .i64 c.dq, .int .i64 c.ch, .int .i64 c.bu, .int .i64 c.ro, .int .i64 c.sw] : List Value).toArray 24)) := (Below.refl _ _).alloc (Nat.le_refl _) _
  go_enter Try.func3, Try.ntmps3
  go_wp2_with fail
  generalize w.alloc (.cells ([.int .i64 c.c0, .int .i64 c.c1, .int .i64 c.c2, .int .i64 c.c3, .int .i64 c.c4, .int .i64 c.mks, .int .i64 c.mus, .int .i64 c.dq, .int .i64 c.ch, .int .i64 c.bu, .int .i64 c.ro, .int .i64 c.sw] : List Value).toArray 24) = w0 at *
  refine (awake11_any w0).mono ?_; rintro e w1 ⟨rfl, hk1⟩
  have hb1 := hk1.blk hb
  have hK1 : Kept w w1 := hk0.trans' hk1
  clear hb hk0 hk1 
  have c0 := hb1.cell 0
  have c1 := hb1.cell 1
  have c2 := hb1.cell 2
  have c3 := hb1.cell 3
  have c4 := hb1.cell 4
  have c5 := hb1.cell 5
  have c6 := hb1.cell 6
  have c7 := hb1.cell 7
  have c8 := hb1.cell 8
  have c9 := hb1.cell 9
  have c10 := hb1.cell 10
  have c11 := hb1.cell 11
  simp only [List.getElem?_cons_zero, List.getElem?_cons_succ] at c0 c1 c2 c3 c4 c5 c6 c7 c8 c9 c10 c11
  go_wp2_with fail
  refine (small11_any c w1).mono ?_; rintro e w2 ⟨⟨v, rfl, hv⟩, hk2⟩
  have HV : Hid (v = true → Good c ∧ Small c) := hv
  have hb2 := hk2.blk hb1
  have hK2 : Kept w w2 := hK1.trans' hk2
  clear hv hk2 hb1 hK1 c0 c1 c2 c3 c4 c5 c6 c7 c8 c9 c10 c11 
  cases v
  · go_wp2_with fail
    go_ret
    exact ⟨rfl, hK2⟩
  have hgs := HV.out rfl
  have Hg : Hid (Good c ∧ Small c) := hgs
  clear HV hgs
  by_cases h20 : (tl : Int) > 20
  · go_wp2_with fail
    go_ret
    exact ⟨rfl, hK2⟩
  by_cases h21 : (pl : Int) > 20
  · go_wp2_with fail
    go_ret
    exact ⟨rfl, hK2⟩
  have htl20 : tl ≤ 20 := by omega
  have hpl20 : pl ≤ 20 := by omega
  have c0 := hb2.cell 0
  have c1 := hb2.cell 1
  have c2 := hb2.cell 2
  have c3 := hb2.cell 3
  have c4 := hb2.cell 4
  have c5 := hb2.cell 5
  have c6 := hb2.cell 6
  have c7 := hb2.cell 7
  have c8 := hb2.cell 8
  have c9 := hb2.cell 9
  have c10 := hb2.cell 10
  have c11 := hb2.cell 11
  simp only [List.getElem?_cons_zero, List.getElem?_cons_succ] at c0 c1 c2 c3 c4 c5 c6 c7 c8 c9 c10 c11
  go_wp2_with fail
  refine (new_good c w2 Hg.out.1).mono ?_; rintro e w3 ⟨bm, rfl, hm3, hk3⟩
  have hK3 : Kept w w3 := hK2.trans' hk3
  have hb3 := hk3.blk hb2
  clear c0 c1 c2 c3 c4 c5 c6 c7 c8 c9 c10 c11 hb2 hk3 hK2 
  go_wp2_with fail
  refine (first_any w3 hm3 Hg.out.1 (Nat.le_refl _)).mono ?_; rintro e w4 ⟨v4, rfl, hr4, hk4⟩
  obtain ⟨fl0, fl1, fall⟩ := first_facts Hg.out.1
  go_wp2_with fail
  refine (new_any w4 hr4 fl0 fl1 fall).mono ?_; rintro e w5 ⟨bs, bl, rfl, hs5, hbs5, hbl5, hk5⟩
  have hm5 := (hm3.kept hk4 (Nat.le_refl _)).kept hk5 hk4.size
  have hb5 := hk5.blk (hk4.blk hb3)
  have hK5 : Kept w w5 := (hK3.trans' hk4).trans' hk5
  have hB5 : w3.heap.size ≤ w5.heap.size := Nat.le_trans hk4.size hk5.size
  have hBs5 : w3.heap.size ≤ bs := Nat.le_trans hk4.size hbs5
  have hBl5 : w3.heap.size ≤ bl := Nat.le_trans hk4.size hbl5
  have hW3 : w.heap.size < w3.heap.size := hb3.lt
  clear hm3 hb3 hr4 hk4 hk5 hK3 hbs5 hbl5 fl0 fl1 fall 
  go_wp2_with fail
  go_loopw [12] (fun iv wr => ∃ (i : Nat) (mem : List Int) (n' : Int), i ≤ tl ∧ iv = .int .i64 i ∧ StoreAt wr bs bl mem n' ∧ Below w3.heap.size w5 wr) (fun iv _ => tl - (intOf iv).toNat)
  case atStart => exact ⟨0, firstL c, _, by omega, rfl, hs5, Below.refl _ _⟩
  case round =>
    obtain ⟨i, mem, n', hi, rfl, hs', hbw⟩ := hrel
    have zr := hbw.size
    have hm' : MapAt wr w3.heap.size bm c := hm5.below hbw (Nat.le_refl _)
    have hKr : Kept w wr := hK5.trans (hbw.mono (Nat.le_of_lt hW3))
    by_cases hlt : (i : Int) < tl
    · have hlt' : i < ts.length := by have := HTL.out; omega
      obtain ⟨ad, cap', e, hcap, hck⟩ := (HP.out wr hKr).get (i := i) (by simpa using hlt')
      rw [List.getElem?_map, List.getElem?_eq_getElem hlt', Option.map_some] at hck
      have hux := HU.out ts[i] (List.getElem_mem _)
      generalize ts[i] = x at *
      simp only [List.length_map, Value.slice.injEq] at e
      obtain ⟨rfl, htlx, rfl⟩ := e
      clear htlx
      obtain ⟨y, hy⟩ : ∃ y, IntKind.u64.wrap (x + 1) = y := ⟨_, rfl⟩
      have huy : U y := by rw [← hy, IntKind.wrap_u64]; unfold U; omega
      have hadl : (ad.add i).block < w.heap.size := by
        obtain ⟨ad', _, e', _, h0⟩ := (HP.out w (Below.refl _ _)).get (i := i) (by simpa using hlt')
        rw [List.getElem?_map, List.getElem?_eq_getElem hlt', Option.map_some] at h0
        simp only [List.length_map, Value.slice.injEq, Option.some.injEq] at e'
        rw [e'.1]
        exact lt_of_cell h0
      have hi0 : (0 : Int) ≤ i := by omega
      have hcd : wr.drew.cell? (ad.add i) = some (.int .u64 x) := hck
      have hkd : Kept wr wr.drew := (Below.refl _ _).drew
      have hka : Kept wr (wr.drew.alloc (.cells #[.int .u64 x, .int .u64 y] 39)) := hkd.alloc (Nat.le_refl _) _
      have hba : Blk (wr.drew.alloc (.cells #[.int .u64 x, .int .u64 y] 39)) wr.heap.size 39 [.int .u64 x, .int .u64 y] := Blk.new wr.drew _ _
      have hcells : ∀ (j : Nat) (u : Value), (([x, y] : List Int).map (Value.int .u64))[j]? = some u → (wr.drew.alloc (.cells #[.int .u64 x, .int .u64 y] 39)).cell? ((⟨wr.heap.size, 0, none⟩ : Addr).add j) = some u := by
        intro j u hj
        match j, hj with
        | 0, hj => simp at hj; subst hj; exact hba.cell 0
        | 1, hj => simp at hj; subst hj; simpa [Addr.add] using hba.cell 1
      have hca : (wr.drew.alloc (.cells #[.int .u64 x, .int .u64 y] 39)).cell? (ad.add i) = some (.int .u64 x) := by rw [Below.cell hka (lt_of_cell hck)]; exact hck
      have hsa := hs'.kept hka
      have hma : MapAt (wr.drew.alloc (.cells #[.int .u64 x, .int .u64 y] 39)) w3.heap.size bm c := hm'.kept hka (by omega)
      have hUs : ∀ z ∈ ([x, y] : List Int), U z := by
        intro z hz
        simp at hz
        rcases hz with rfl | rfl
        · exact hux
        · exact huy
      have P := packPut_any (bm := bm) (ad := ⟨wr.heap.size, 0, none⟩) (cap := 2) (ts := [x, y]) _ hsa hma (by simp) hcells hba.lt hUs (by simp) (by simp)
      clear hcells
      go_wp2_with fail
      go_region_held3 (fun w' => w'.cell? (ad.add i) = some (.int .u64 x)) (first | exact hcd | exact hca | exact hc7 | exact hc8)
        (first
         | (go_at_call 11; refine P.mono ?_; rintro e w7 ⟨b, bi, gt, rfl, hp7, hpb, hpbi, hpgt, hpgl, hk7⟩
            have hc7 : w7.cell? (ad.add i) = some (.int .u64 x) := by rw [Below.cell hk7 (lt_of_cell hca)]; exact hca)
         | (go_at_call 10; refine (whole11_any (B := w3.heap.size) _ Hg.out.1 hp7 (hsa.kept hk7) (hma.kept hk7 (by simp; omega)) (by have := hk7.size; simp at this; omega) hpgl ⟨fun _ => ⟨rfl, by simp⟩, fun e => by cases e⟩ (by simp at hpb; omega) (by simp at hpbi; omega) hBs5 hBl5).mono ?_; rintro e w8 ⟨rfl, hran, hch⟩
            have hc8 : w8.cell? (ad.add i) = some (.int .u64 x) := by
              have hb8 : Below w.heap.size w7 w8 := hch.toBelow (by have := hk7.size; simp at this; omega) (fun q hq e => by simp at hpb hpbi; rcases e with e | e | e | e <;> omega)
              rw [Below.cell hb8 hadl]; exact hc7))
      obtain ⟨bi', n2, _, _, hs9⟩ := hran
      have hb9 : Below w3.heap.size w5 w8 := (hbw.trans ((hka.mono (by omega)).trans (hk7.mono (by simp; omega)))).trans (hch.toBelow (by have := hk7.size; simp at this; omega) (fun q hq e => by simp at hpb hpbi; rcases e with e | e | e | e <;> omega))
      clear hch hk7 hp7 hsa hma hka hkd hba hca hcd hc7 hc8 P
      go_wp2_with fail
      go_roundw
      case rel => exact ⟨i + 1, _, n2, by omega, by go_num, hs9, hb9⟩
      case measure => simp [intOf]; omega
    · obtain rfl : i = tl := by omega
      have HB0 : Hid (Below w3.heap.size w5 wr) := hbw
      generalize wr = w6 at *
      clear hlt hbw hm' hKr
      go_wp2_with fail
      go_loopw [13] (fun iv wr => ∃ (i : Nat) (mem : List Int) (n' : Int), i ≤ pl ∧ iv = .int .i64 i ∧ StoreAt wr bs bl mem n' ∧ Below w3.heap.size w5 wr) (fun iv _ => pl - (intOf iv).toNat)
      case atStart => exact ⟨0, mem, _, by omega, rfl, hs', HB0.out⟩
      case round =>
        clear hs' HB0
        obtain ⟨i, mem, n', hi, rfl, hs', hbw⟩ := hrel
        have zr := hbw.size
        have hm' : MapAt wr w3.heap.size bm c := hm5.below hbw (Nat.le_refl _)
        have hKr : Kept w wr := hK5.trans (hbw.mono (Nat.le_of_lt hW3))
        by_cases hlt : (i : Int) < pl
        · have hlt' : i < ps.length := by have := HPL.out; omega
          obtain ⟨sb, so, cap', e, _, hc0, hc1⟩ := (HK.out wr hKr).at hlt'
          have hux := ((HK.out w (Below.refl _ _)).1 ps[i] (List.getElem_mem _)).2
          generalize ps[i] = q at *
          simp only [Value.slice.injEq] at e
          obtain ⟨rfl, hplx, rfl⟩ := e
          clear hplx
          have hsb : sb < w.heap.size := by
            obtain ⟨sb', so', _, e', h0, _⟩ := (HK.out w (Below.refl _ _)).at hlt'
            simp only [Value.slice.injEq, Option.some.injEq, Addr.mk.injEq] at e'
            rw [e'.1.1]; exact h0
          obtain ⟨a, x⟩ := q
          simp only at hc0 hc1 hux
          have d0 : wr.drew.cell? ⟨sb, so + i * 2, none⟩ = some (.int .i64 a) := hc0
          have d1 : wr.drew.cell? ⟨sb, so + i * 2 + 1, none⟩ = some (.int .u64 x) := hc1
          have hsd : StoreAt wr.drew bs bl mem n' := hs'.kept (Below.refl _ _).drew
          have hi0 : (0 : Int) ≤ i := by omega
          go_wp2_with fail
          go_region_held3 (fun w' => w'.cell? ⟨sb, so + i * 2, none⟩ = some (.int .i64 a) ∧ w'.cell? ⟨sb, so + i * 2 + 1, none⟩ = some (.int .u64 x)) (first | exact ⟨d0, d1⟩ | exact ⟨e0, e1⟩)
            (first
             | (go_at_call 12; refine (put_any a x _ hsd hux).mono ?_; rintro e w7 ⟨rfl, hs7, hc7⟩
                have hb7 : Below w.heap.size wr.drew w7 := hc7.toBelow (by simp; omega) (fun q hq e => by rcases e with e | e <;> omega)
                have e0 : w7.cell? ⟨sb, so + i * 2, none⟩ = some (.int .i64 a) := by rw [Below.cell hb7 hsb]; exact d0
                have e1 : w7.cell? ⟨sb, so + i * 2 + 1, none⟩ = some (.int .u64 x) := by rw [Below.cell hb7 hsb]; exact d1))
          have hb9 : Below w3.heap.size w5 w7 := (hbw.trans (Below.refl w3.heap.size wr).drew).trans (hc7.toBelow (by simp; omega) (fun q hq e => by rcases e with e | e <;> omega))
          clear hc7 hsd d0 d1 e0 e1 hb7
          go_wp2_with fail
          go_roundw
          case rel => exact ⟨i + 1, _, _, by omega, by go_num, hs7, hb9⟩
          case measure => simp [intOf]; omega
        · obtain rfl : i = pl := by omega
          have hb5r := below_blk0 hbw hb5 hW3
          go_wp2_with fail
          have hbd := hb5r.drew
          have hKd : Kept w wr.drew := hKr.drew
          have hsd : StoreAt wr.drew bs bl mem n' := hs'.kept (Below.refl _ _).drew
          have hmd : MapAt wr.drew w3.heap.size bm c := hm'.drew
          have hlp := hs'.pos
          have hle := hs'.le
          have hal := hs'.all
          have hrow : ∀ (W W' : World) (g : Nat), Blk W' g 39 (mem.map (Value.int .u64)) → MemV W' (.slice (some ⟨g, 0, none⟩) mem.length mem.length) mem := fun W W' g h => by
            have := h.row (by simp; unfold maxLen; omega)
            simpa using this
          have HROW : Hid (∀ (W W' : World) (g : Nat), Blk W' g 39 (mem.map (Value.int .u64)) → MemV W' (.slice (some ⟨g, 0, none⟩) mem.length mem.length) mem) := hrow
          clear hrow
          have d0 := hbd.cell 0
          have d1 := hbd.cell 1
          have d2 := hbd.cell 2
          have d3 := hbd.cell 3
          have d4 := hbd.cell 4
          have d5 := hbd.cell 5
          have d6 := hbd.cell 6
          have d7 := hbd.cell 7
          have d8 := hbd.cell 8
          have d9 := hbd.cell 9
          have d10 := hbd.cell 10
          have d11 := hbd.cell 11
          simp only [List.getElem?_cons_zero, List.getElem?_cons_succ] at d0 d1 d2 d3 d4 d5 d6 d7 d8 d9 d10 d11
          refine wp_region_z 15 (fun w' => w'.cell? ⟨w.heap.size, 0, none⟩ = some (.int .i64 c.c0) ∧ w'.cell? ⟨w.heap.size, 1, none⟩ = some (.int .i64 c.c1) ∧ w'.cell? ⟨w.heap.size, 2, none⟩ = some (.int .i64 c.c2) ∧ w'.cell? ⟨w.heap.size, 3, none⟩ = some (.int .i64 c.c3) ∧ w'.cell? ⟨w.heap.size, 4, none⟩ = some (.int .i64 c.c4) ∧ w'.cell? ⟨w.heap.size, 5, none⟩ = some (.int .i64 c.mks) ∧ w'.cell? ⟨w.heap.size, 6, none⟩ = some (.int .i64 c.mus) ∧ w'.cell? ⟨w.heap.size, 7, none⟩ = some (.int .i64 c.dq) ∧ w'.cell? ⟨w.heap.size, 8, none⟩ = some (.int .i64 c.ch) ∧ w'.cell? ⟨w.heap.size, 9, none⟩ = some (.int .i64 c.bu) ∧ w'.cell? ⟨w.heap.size, 10, none⟩ = some (.int .i64 c.ro) ∧ w'.cell? ⟨w.heap.size, 11, none⟩ = some (.int .i64 c.sw)) (by kernel_rfl) ?_
          refine wpAnyZ_take (i := 0) (v := ?v0z11) rfl (by kernel_rfl) (by kernel_rfl) (by kernel_rfl) (by kernel_rfl) (fun _ _ _ h => h) (Or.inl ⟨by rfl, ?hy0z11⟩) ⟨d0,d1,d2,d3,d4,d5,d6,d7,d8,d9,d10,d11⟩ ?_
          case hy0z11 => intro w hSw; (try dsimp only at hSw); first | (go_simp; done) | (go_simp; with_reducible rfl)
          try simp only [Act.put, List.setIfInBounds_toArray]
          refine wpAnyZ_take (i := 1) (v := ?v1z11) rfl (by kernel_rfl) (by kernel_rfl) (by kernel_rfl) (by kernel_rfl) (fun _ _ _ h => h) (Or.inl ⟨by rfl, ?hy1z11⟩) ⟨d0,d1,d2,d3,d4,d5,d6,d7,d8,d9,d10,d11⟩ ?_
          case hy1z11 => intro w hSw; (try dsimp only at hSw); first | (go_simp; done) | (go_simp; with_reducible rfl)
          try simp only [Act.put]
          refine wpAnyZ_take (i := 2) (v := ?v2z11) rfl (by kernel_rfl) (by kernel_rfl) (by kernel_rfl) (by kernel_rfl) (fun _ _ _ h => h) (Or.inl ⟨by rfl, ?hy2z11⟩) ⟨d0,d1,d2,d3,d4,d5,d6,d7,d8,d9,d10,d11⟩ ?_
          case hy2z11 => intro w hSw; (try dsimp only at hSw); first | (go_simp; done) | (go_simp; with_reducible rfl)
          try simp only [Act.put]
          refine wpAnyZ_take (i := 3) (v := ?v3z11) rfl (by kernel_rfl) (by kernel_rfl) (by kernel_rfl) (by kernel_rfl) (fun _ _ _ h => h) (Or.inl ⟨by rfl, ?hy3z11⟩) ⟨d0,d1,d2,d3,d4,d5,d6,d7,d8,d9,d10,d11⟩ ?_
          case hy3z11 => intro w hSw; (try dsimp only at hSw); first | (go_simp; done) | (go_simp; with_reducible rfl)
          try simp only [Act.put]
          refine wpAnyZ_take (i := 4) (v := ?v4z11) rfl (by kernel_rfl) (by kernel_rfl) (by kernel_rfl) (by kernel_rfl) (fun _ _ _ h => h) (Or.inl ⟨by rfl, ?hy4z11⟩) ⟨d0,d1,d2,d3,d4,d5,d6,d7,d8,d9,d10,d11⟩ ?_
          case hy4z11 => intro w hSw; (try dsimp only at hSw); first | (go_simp; done) | (go_simp; with_reducible rfl)
          try simp only [Act.put]
          refine wpAnyZ_take (i := 7) (v := ?v7z11) rfl (by kernel_rfl) (by kernel_rfl) (by kernel_rfl) (by kernel_rfl) (fun _ _ _ h => h) (Or.inl ⟨by rfl, ?hy7z11⟩) ⟨d0,d1,d2,d3,d4,d5,d6,d7,d8,d9,d10,d11⟩ ?_
          case hy7z11 => intro w hSw; (try dsimp only at hSw); first | (go_simp; done) | (go_simp; with_reducible rfl)
          try simp only [Act.put]
          refine wpAnyZ_take (i := 10) (v := ?v10z11) rfl (by kernel_rfl) (by kernel_rfl) (by kernel_rfl) (by kernel_rfl) (fun _ _ _ h => h) (Or.inl ⟨by rfl, ?hy10z11⟩) ⟨d0,d1,d2,d3,d4,d5,d6,d7,d8,d9,d10,d11⟩ ?_
          case hy10z11 => intro w hSw; (try dsimp only at hSw); first | (go_simp; done) | (go_simp; with_reducible rfl)
          try simp only [Act.put]
          refine wpAnyZ_one (i := 5) (by kernel_rfl) rfl (fun K hK => ?_)
          go_simp
          go_at_call 15
          refine (mAll_any _ hsd).mono ?_; rintro e w7 ⟨rfl, hb7, hk7⟩
          have hr7 := HROW.out wr.drew w7 _ hb7
          have hbc7 := hk7.blk hbd
          have hs7 := hsd.kept hk7
          have hm7 := hmd.kept hk7 (by simp; omega)
          have hK7 := Kept.trans' hKd hk7
          have z7 := hk7.size
          have e0 := hbc7.cell 0
          have e1 := hbc7.cell 1
          have e2 := hbc7.cell 2
          have e3 := hbc7.cell 3
          have e4 := hbc7.cell 4
          have e5 := hbc7.cell 5
          have e6 := hbc7.cell 6
          have e7 := hbc7.cell 7
          have e8 := hbc7.cell 8
          have e9 := hbc7.cell 9
          have e10 := hbc7.cell 10
          have e11 := hbc7.cell 11
          simp only [List.getElem?_cons_zero, List.getElem?_cons_succ] at e0 e1 e2 e3 e4 e5 e6 e7 e8 e9 e10 e11
          refine hK.out _ _ (fun _ => ⟨e0,e1,e2,e3,e4,e5,e6,e7,e8,e9,e10,e11⟩) ?_
          clear hK K
          try simp only [Act.put, List.setIfInBounds_toArray, List.set_cons_zero, List.set_cons_succ]
          refine wpAnyZ_one (i := 6) (by kernel_rfl) rfl (fun K hK => ?_)
          go_simp
          go_at_call 14
          refine (held_any w7 Hg.out.1 hm7 (by simp at z7; omega) hr7 hlp hle hal).mono ?_; rintro e w8 ⟨v8, rfl, own8, hk8⟩
          have hbc8 := hk8.blk hbc7
          have hs8 := hs7.kept hk8
          have hK8 := Kept.trans' hK7 hk8
          have hr8 : MemV w8 v8 (heldL c mem) := Row.ofOwn own8
          have g0 := hbc8.cell 0
          have g1 := hbc8.cell 1
          have g2 := hbc8.cell 2
          have g3 := hbc8.cell 3
          have g4 := hbc8.cell 4
          have g5 := hbc8.cell 5
          have g6 := hbc8.cell 6
          have g7 := hbc8.cell 7
          have g8 := hbc8.cell 8
          have g9 := hbc8.cell 9
          have g10 := hbc8.cell 10
          have g11 := hbc8.cell 11
          simp only [List.getElem?_cons_zero, List.getElem?_cons_succ] at g0 g1 g2 g3 g4 g5 g6 g7 g8 g9 g10 g11
          refine hK.out _ _ (fun _ => ⟨g0,g1,g2,g3,g4,g5,g6,g7,g8,g9,g10,g11⟩) ?_
          clear hK K
          try simp only [Act.put, List.setIfInBounds_toArray, List.set_cons_zero, List.set_cons_succ]
          refine wpAnyZ_one (i := 8) (by kernel_rfl) rfl (fun K hK => ?_)
          go_simp
          go_at_call 18
          refine (model11_any c w8).mono ?_; rintro e w9 ⟨rfl, hk9⟩
          have hbc9 := hk9.blk hbc8
          have hs9 := hs8.kept hk9
          have hK9 := Kept.trans' hK8 hk9
          have hr9 := hr8.kept hk9
          have k0 := hbc9.cell 0
          have k1 := hbc9.cell 1
          have k2 := hbc9.cell 2
          have k3 := hbc9.cell 3
          have k4 := hbc9.cell 4
          have k5 := hbc9.cell 5
          have k6 := hbc9.cell 6
          have k7 := hbc9.cell 7
          have k8 := hbc9.cell 8
          have k9 := hbc9.cell 9
          have k10 := hbc9.cell 10
          have k11 := hbc9.cell 11
          simp only [List.getElem?_cons_zero, List.getElem?_cons_succ] at k0 k1 k2 k3 k4 k5 k6 k7 k8 k9 k10 k11
          refine hK.out _ _ (fun _ => ⟨k0,k1,k2,k3,k4,k5,k6,k7,k8,k9,k10,k11⟩) ?_
          clear hK K
          try simp only [Act.put, List.setIfInBounds_toArray, List.set_cons_zero, List.set_cons_succ]
          refine wpAnyZ_one (i := 9) (by kernel_rfl) rfl (fun K hK => ?_)
          go_simp
          go_at_call 17
          refine (map_ref c w9 Hg.out.1).mono ?_; rintro e w10 ⟨vm, rfl, hvm, hk10⟩
          have hbc10 := hk10.blk hbc9
          have hs10 := hs9.kept hk10
          have hK10 := Kept.trans' hK9 hk10
          have hr10 := hr9.kept hk10
          have m0 := hbc10.cell 0
          have m1 := hbc10.cell 1
          have m2 := hbc10.cell 2
          have m3 := hbc10.cell 3
          have m4 := hbc10.cell 4
          have m5 := hbc10.cell 5
          have m6 := hbc10.cell 6
          have m7 := hbc10.cell 7
          have m8 := hbc10.cell 8
          have m9 := hbc10.cell 9
          have m10 := hbc10.cell 10
          have m11 := hbc10.cell 11
          simp only [List.getElem?_cons_zero, List.getElem?_cons_succ] at m0 m1 m2 m3 m4 m5 m6 m7 m8 m9 m10 m11
          refine hK.out _ _ (fun _ => ⟨m0,m1,m2,m3,m4,m5,m6,m7,m8,m9,m10,m11⟩) ?_
          clear hK K
          try simp only [Act.put, List.setIfInBounds_toArray, List.set_cons_zero, List.set_cons_succ]
          refine wpAnyZ_one (i := 11) (by kernel_rfl) rfl (fun K hK => ?_)
          go_simp
          go_at_call 15
          refine (mAll_any _ hs10).mono ?_; rintro e w11 ⟨rfl, hb11, hk11⟩
          have hrm := HROW.out w10 w11 _ hb11
          have hbc11 := hk11.blk hbc10
          have hvm11 := hvm.kept hk11
          have hK11 := Kept.trans' hK10 hk11
          have hr11 := hr10.kept hk11
          have n0 := hbc11.cell 0
          have n1 := hbc11.cell 1
          have n2 := hbc11.cell 2
          have n3 := hbc11.cell 3
          have n4 := hbc11.cell 4
          have n5 := hbc11.cell 5
          have n6 := hbc11.cell 6
          have n7 := hbc11.cell 7
          have n8 := hbc11.cell 8
          have n9 := hbc11.cell 9
          have n10 := hbc11.cell 10
          have n11 := hbc11.cell 11
          simp only [List.getElem?_cons_zero, List.getElem?_cons_succ] at n0 n1 n2 n3 n4 n5 n6 n7 n8 n9 n10 n11
          refine hK.out _ _ (fun _ => ⟨n0,n1,n2,n3,n4,n5,n6,n7,n8,n9,n10,n11⟩) ?_
          clear hK K
          try simp only [Act.put, List.setIfInBounds_toArray, List.set_cons_zero, List.set_cons_succ]
          refine wpAnyZ_one (i := 12) (by kernel_rfl) rfl (fun K hK => ?_)
          go_simp
          go_at_call 16
          refine (heldR_ref w11 Hg.out.1 hvm11 hrm hal hle).mono ?_; rintro e w12 ⟨v12, rfl, hr12, hk12⟩
          have hbc12 := hk12.blk hbc11
          have hK12 := Kept.trans' hK11 hk12
          have hq12 := hr11.kept hk12
          have o0 := hbc12.cell 0
          have o1 := hbc12.cell 1
          have o2 := hbc12.cell 2
          have o3 := hbc12.cell 3
          have o4 := hbc12.cell 4
          have o5 := hbc12.cell 5
          have o6 := hbc12.cell 6
          have o7 := hbc12.cell 7
          have o8 := hbc12.cell 8
          have o9 := hbc12.cell 9
          have o10 := hbc12.cell 10
          have o11 := hbc12.cell 11
          simp only [List.getElem?_cons_zero, List.getElem?_cons_succ] at o0 o1 o2 o3 o4 o5 o6 o7 o8 o9 o10 o11
          refine hK.out _ _ (fun _ => ⟨o0,o1,o2,o3,o4,o5,o6,o7,o8,o9,o10,o11⟩) ?_
          clear hK K
          try simp only [Act.put, List.setIfInBounds_toArray, List.set_cons_zero, List.set_cons_succ]
          refine wpAnyZ_one (i := 13) (by kernel_rfl) rfl (fun K hK => ?_)
          go_simp
          go_at_call 13
          refine (same_any w12 hq12 hr12).mono ?_; rintro e w13 ⟨rfl, hk13⟩
          rw [decide_eq_true (show heldL c mem = heldL c mem from rfl)]
          have hbc13 := hk13.blk hbc12
          have hK13 := Kept.trans' hK12 hk13
          have p0 := hbc13.cell 0
          have p1 := hbc13.cell 1
          have p2 := hbc13.cell 2
          have p3 := hbc13.cell 3
          have p4 := hbc13.cell 4
          have p5 := hbc13.cell 5
          have p6 := hbc13.cell 6
          have p7 := hbc13.cell 7
          have p8 := hbc13.cell 8
          have p9 := hbc13.cell 9
          have p10 := hbc13.cell 10
          have p11 := hbc13.cell 11
          simp only [List.getElem?_cons_zero, List.getElem?_cons_succ] at p0 p1 p2 p3 p4 p5 p6 p7 p8 p9 p10 p11
          refine hK.out _ _ (fun _ => ⟨p0,p1,p2,p3,p4,p5,p6,p7,p8,p9,p10,p11⟩) ?_
          clear hK K
          try simp only [Act.put, List.setIfInBounds_toArray, List.set_cons_zero, List.set_cons_succ]
          refine wpAnyZ_one (i := 14) (by kernel_rfl) rfl (fun K hK => ?_)
          go_simp
          refine hK.out _ _ (fun _ => ⟨p0,p1,p2,p3,p4,p5,p6,p7,p8,p9,p10,p11⟩) ?_
          clear hK K
          try simp only [Act.put, List.setIfInBounds_toArray, List.set_cons_zero, List.set_cons_succ]
          refine wpAnyZ_one (i := 15) (by kernel_rfl) rfl (fun K hK => ?_)
          go_simp
          refine hK.out _ _ (fun h => absurd rfl h) ?_
          refine wpAnyZ_done (by kernel_rfl) ?_ _
          clear hK K
          clear d0 d1 d2 d3 d4 d5 d6 d7 d8 d9 d10 d11 e0 e1 e2 e3 e4 e5 e6 e7 e8 e9 e10 e11 g0 g1 g2 g3 g4 g5 g6 g7 g8 g9 g10 g11 k0 k1 k2 k3 k4 k5 k6 k7 k8 k9 k10 k11 m0 m1 m2 m3 m4 m5 m6 m7 m8 m9 m10 m11 n0 n1 n2 n3 n4 n5 n6 n7 n8 n9 n10 n11 o0 o1 o2 o3 o4 o5 o6 o7 o8 o9 o10 o11 p0 p1 p2 p3 p4 p5 p6 p7 p8 p9 p10 p11
          go_wp2_with fail
          go_ret
          exact ⟨rfl, hK13⟩

end Go.Proofs.Ytcejleaedlflaaa
