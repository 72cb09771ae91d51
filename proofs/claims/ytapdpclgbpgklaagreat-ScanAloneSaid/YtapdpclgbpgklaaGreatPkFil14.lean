/- A map's memory, whose nodes have numbers in their heads and slots (chapter 14's): walked. -/
import Derived.Test.YtapdpclgbpgklaaGreatPkK
import Derived.Test.YtapdpclgbpgklaaGreatPkM
import Derived.Test.YtapdpclgbpgklaaGreatPkF
namespace Go.Proofs.YtapdpclgbpgklaaGreat
open Go.RowKit

/-- Memory as it is first, but for heads and slots. -/
structure Fil (c : Cfg) (mem : List Int) : Prop where
  len : mem.length = (firstL c).length
  same : ∀ a, (∀ v j : Int, 1 ≤ v → v ≤ nN c → (j = 0 ∨ 4 ≤ j) → j < 4 + room c v → a ≠ pNode c v j) → mget mem a = mget (firstL c) a

theorem Fil.first (c : Cfg) : Fil c (firstL c) := ⟨rfl, fun _ _ => rfl⟩

theorem Fil.put {c : Cfg} {mem : List Int} (h : Fil c mem) {v j : Int} (hv : 1 ≤ v ∧ v ≤ nN c) (hj : j = 0 ∨ 4 ≤ j) (hr : j < 4 + room c v) (x : Int) : Fil c (mput mem (pNode c v j) x) :=
  ⟨by rw [mput_len]; exact h.len, fun a ha => by rw [mget_other (ha v j hv.1 hv.2 hj hr)]; exact h.same a ha⟩

set_option maxRecDepth 8000 in
set_option maxHeartbeats 6400000 in
theorem filled14_any {B bm : Nat} {c : Cfg} {fs : List Int} {ao : Option Addr} {cp : Nat} (w : World) (hg : Good c) (hm : MapAt w B bm c) (hB : B ≤ w.heap.size) (hr : Reads w (.slice ao fs.length cp) (fs.map (Value.int .u64))) (hz : ∀ z ∈ fs, U z) (hle : fs.length ≤ 1000) :
    Calls Tryz.prog 33 #[.pointer (some ⟨bm, 0, none⟩), .slice ao fs.length cp] w fun e w' => ∃ bs bl mem n, e = .returned (.pointer (some ⟨bs, 0, none⟩)) ∧ StoreAt w' bs bl mem n ∧ Fil c mem ∧ w.heap.size ≤ bs ∧ w.heap.size ≤ bl ∧ Kept w w' := by
  obtain ⟨fl0, fl1, fall⟩ := first_facts hg
  obtain ⟨fl, hfl⟩ : ∃ fl : Nat, fs.length = fl := ⟨_, rfl⟩
  rw [hfl] at hr hle ⊢
  have HFL : Hid (fs.length = fl) := hfl
  clear hfl
  have HR : Hid _ := hr
  have HZ : Hid (∀ z ∈ fs, U z) := hz
  clear hr hz
  have hnb := nN_bound hg
  obtain ⟨nn, hnn⟩ : ∃ nn : Nat, nN c = nn := ⟨_, rfl⟩
  have HNN : Hid (nN c = nn) := hnn
  rw [hnn] at hnb
  clear hnn
  go_enter Tryz.func33, Tryz.ntmps33
  go_wp2_with fail
  refine (first_any w hm hg hB).mono ?_; rintro e w4 ⟨v4, rfl, hr4, hk4⟩
  go_wp2_with fail
  refine (new_any w4 hr4 fl0 fl1 fall).mono ?_; rintro e w5 ⟨bs, bl, rfl, hs5, hbs5, hbl5, hk5⟩
  have hK5 : Kept w w5 := hk4.trans' hk5
  have z4 : w.heap.size ≤ w4.heap.size := hk4.size
  have hbs : w.heap.size ≤ bs := by omega
  have hbl : w.heap.size ≤ bl := by omega
  clear hr4 hk4 hk5 fl0 fl1 fall hbs5 hbl5
  go_wp2_with fail
  go_loopw [6, 7] (fun kv vv wr => ∃ (k v : Nat) (mem : List Int) (n' : Int), 1 ≤ v ∧ v ≤ nn + 1 ∧ k ≤ 20 * v ∧ kv = .int .i64 k ∧ vv = .int .i64 v ∧ Fil c mem ∧ StoreAt wr bs bl mem n' ∧ Kept w wr) (fun kv vv _ => nn + 1 - (intOf vv).toNat)
  case atStart => exact ⟨0, 1, _, _, by omega, by omega, by omega, rfl, rfl, Fil.first c, hs5, hK5⟩
  case round =>
    clear hs5 hK5
    obtain ⟨k, v, mem, n', hv0, hv1, hk20, rfl, rfl, hfil, hs, hK⟩ := hrel
    have hm' := hm.kept hK hB
    have zr : w.heap.size ≤ wr.heap.size := hK.size
    have HF : Hid _ := hfil
    clear hfil
    by_cases hlt : (v : Int) ≤ nn
    · by_cases hpos : (0 : Int) < fl
      · have hroom := room_bound c v
        obtain ⟨rm, hrm⟩ : ∃ rm : Nat, room c v = rm := ⟨(room c v).toNat, by omega⟩
        rw [hrm] at hroom
        have HRM : Hid (room c v = rm) := hrm
        clear hrm
        have hv : 1 ≤ (v : Int) ∧ (v : Int) ≤ nN c := by rw [HNN.out]; omega
        have hrm16 : rm ≤ 16 := by omega
        have yrm : IntKind.u64.wrap (rm : Int) = rm := by rw [IntKind.wrap_u64]; omega
        have yv : IntKind.i64.wrap ((v : Int) + 1) = v + 1 := wrap_small (by omega) (by omega)
        have yk : IntKind.i64.wrap ((k : Int) + 1) = k + 1 := wrap_small (by omega) (by omega)
        obtain ⟨r, hrd⟩ : ∃ r : Nat, r = k % fl := ⟨_, rfl⟩
        have hrl : r < fl := by rw [hrd]; exact Nat.mod_lt _ (by omega)
        have hrt : (k : Int).tmod fl = r := by rw [hrd]; exact (Int.tmod_eq_emod_of_nonneg (by omega)).trans (by omega)
        obtain ⟨ad, cap, e, hcap, hck⟩ := (show Reads w (.slice ao fl cp) (fs.map (Value.int .u64)) from HR.out).get (i := r) (by rw [List.length_map, HFL.out]; exact hrl)
        rw [List.getElem?_map, List.getElem?_eq_getElem (show r < fs.length by rw [HFL.out]; exact hrl), Option.map_some] at hck
        have hzk := HZ.out (fs[r]'(by rw [HFL.out]; exact hrl)) (List.getElem_mem _)
        generalize fs[r]'(by rw [HFL.out]; exact hrl) = z at *
        simp only [List.length_map, Value.slice.injEq] at e
        obtain ⟨rfl, hfe, rfl⟩ := e
        clear hfe
        unfold U at hzk
        obtain ⟨hz0, hz1⟩ := hzk
        clear hrd
        have hlen0 : ¬ (fl : Int) = 0 := by omega
        have hlen1 : ¬ fl = 0 := by omega
        have hrl' : (r : Int) < fl := by omega
        go_wp2_with fail
        refine (mNodes_any wr hm').mono ?_; rintro e wx ⟨rfl, rfl⟩
        rw [HNN.out]
        go_wp2_with fail
        refine (mHeader_any v wr hm' hg).mono ?_; rintro e wx ⟨rfl, rfl⟩
        go_wp2_with fail
        refine (mRoom_any v wr hm' hg).mono ?_; rintro e wx ⟨rfl, rfl⟩
        rw [HRM.out]
        go_wp2_with fail
        refine (put_any (pNode c v 0) rm wr hs (by unfold U; omega)).mono ?_; rintro e w6 ⟨rfl, hs6, hc6⟩
        have hb6 : Below w.heap.size wr w6 := hc6.toBelow zr (fun q hq e => by rcases e with e | e <;> omega)
        have hK6 : Kept w w6 := hK.trans hb6
        have hm6 := hm.kept hK6 hB
        have z6 : w.heap.size ≤ w6.heap.size := hK6.size
        have HF6 : Hid _ := HF.out.put hv (.inl rfl) (show (0 : Int) < 4 + room c v by have := (room_bound c v).1; omega) rm
        have hck6 : w6.cell? (ad.add r) = some (.int .u64 z) := by rw [Below.cell hK6 (by exact lt_of_cell hck)]; exact hck
        clear hs hc6 hb6 HF hK hm'
        by_cases h9 : 900 < z
        · have hd9 : decide (900 < z) = true := decide_eq_true h9
          have y9 : IntKind.u64.wrap (z - 900) = z - 900 := by rw [IntKind.wrap_u64]; omega
          go_wp2_with fail
          go_region_held3 (fun w' => w'.cell? (ad.add r) = some (.int .u64 z)) (first | exact hck6 | exact hck7)
            (first
             | (go_at_call 36; refine (mHeader_any v _ hm6.drew hg).mono ?_; rintro e wx ⟨rfl, rfl⟩)
             | (go_at_call 16; refine (put_any (pNode c v 0) (z - 900) _ hs6.drew (by unfold U; omega)).mono ?_; rintro e w7 ⟨rfl, hs7, hc7⟩
                have hb7 : Below w.heap.size w6 w7 := Below.trans (show Below w.heap.size w6 w6.drew from (Below.refl _ _).drew) (hc7.toBelow z6 (fun q hq e => by rcases e with e | e <;> omega))
                have hK7 : Kept w w7 := hK6.trans hb7
                have hck7 : w7.cell? (ad.add r) = some (.int .u64 z) := by rw [Below.cell hK7 (by exact lt_of_cell hck)]; exact hck))
          have HF7 : Hid _ := HF6.out.put hv (.inl rfl) (show (0 : Int) < 4 + room c v by have := (room_bound c v).1; omega) (z - 900)
          have hm7 := hm.kept hK7 hB
          clear hs6 hc7 hb7 hm6 hK6 HF6 hck6
          go_wp2_with fail
          try clear hck6
          clear hck7
          go_loopw [6, 8] (fun kv iv wr => ∃ (i : Nat) (mem : List Int) (n' : Int), i ≤ rm ∧ kv = .int .i64 ((k : Int) + 1 + i) ∧ iv = .int .i64 i ∧ Fil c mem ∧ StoreAt wr bs bl mem n' ∧ Kept w wr) (fun kv iv _ => rm - (intOf iv).toNat)
          case atStart => exact ⟨0, _, _, by omega, by simp, rfl, HF7.out, hs7, hK7⟩
          case round =>
            clear hs7 hK7 hm7 HF7 hck
            obtain ⟨i, mem, n', hi, rfl, rfl, hfil, hs, hK⟩ := hrel
            have hm' := hm.kept hK hB
            have zr : w.heap.size ≤ wr.heap.size := hK.size
            have HF : Hid _ := hfil
            clear hfil
            by_cases hil : (i : Int) < rm
            · obtain ⟨q, hq⟩ : ∃ q : Nat, (q : Int) = (k : Int) + 1 + i := ⟨k + 1 + i, by omega⟩
              rw [← hq]
              have hq1 : q = k + 1 + i := by omega
              have yq : IntKind.i64.wrap ((q : Int) + 1) = q + 1 := wrap_small (by omega) (by omega)
              have yi : IntKind.i64.wrap ((i : Int) + 1) = i + 1 := wrap_small (by omega) (by omega)
              obtain ⟨t, htd⟩ : ∃ t : Nat, t = q % fl := ⟨_, rfl⟩
              have htl : t < fl := by rw [htd]; exact Nat.mod_lt _ (by omega)
              have htt : (q : Int).tmod fl = t := by rw [htd]; exact (Int.tmod_eq_emod_of_nonneg (by omega)).trans (by omega)
              obtain ⟨ad', cap', e', hcap', hct⟩ := (show Reads w (.slice (some ad) fl cp) (fs.map (Value.int .u64)) from HR.out).get (i := t) (by rw [List.length_map, HFL.out]; exact htl)
              rw [List.getElem?_map, List.getElem?_eq_getElem (show t < fs.length by rw [HFL.out]; exact htl), Option.map_some] at hct
              have hzt := HZ.out (fs[t]'(by rw [HFL.out]; exact htl)) (List.getElem_mem _)
              generalize fs[t]'(by rw [HFL.out]; exact htl) = zt at *
              simp only [List.length_map, Value.slice.injEq, Option.some.injEq] at e'
              obtain ⟨rfl, hfe, rfl⟩ := e'
              clear hfe
              have htl' : (t : Int) < fl := by omega
              have hctr : wr.cell? (ad.add t) = some (.int .u64 zt) := by rw [Below.cell hK (by exact lt_of_cell hct)]; exact hct
              have HPS : Hid (pSlot c v i = pNode c v (4 + i)) := by unfold Hid pSlot; rw [if_pos ⟨by omega, by rw [HRM.out]; exact hil⟩]
              have HQ1 : Hid (q = k + 1 + i) := hq1
              clear htd hq hq1
              go_wp2_with fail
              refine (mRoom_any v wr hm' hg).mono ?_; rintro e wx ⟨rfl, rfl⟩
              rw [HRM.out]
              go_wp2_with fail
              go_region_held3 (fun w' => w'.cell? (ad.add t) = some (.int .u64 zt)) (first | exact hctr | exact hct8)
                (first
                 | (go_at_call 42; refine (mSlot_any v i _ hm'.drew hg).mono ?_; rintro e wx ⟨rfl, rfl⟩; rw [HPS.out])
                 | (go_at_call 16; refine (put_any (pNode c v (4 + i)) zt _ hs.drew hzt).mono ?_; rintro e w8 ⟨rfl, hs8, hc8⟩
                    have hb8 : Below w.heap.size wr w8 := Below.trans (show Below w.heap.size wr wr.drew from (Below.refl _ _).drew) (hc8.toBelow zr (fun q hq e => by rcases e with e | e <;> omega))
                    have hK8 : Kept w w8 := hK.trans hb8
                    have hct8 : w8.cell? (ad.add t) = some (.int .u64 zt) := by rw [Below.cell hK8 (by exact lt_of_cell hct)]; exact hct))
              have HF8 : Hid _ := HF.out.put hv (.inr (show (4 : Int) ≤ 4 + i by omega)) (show 4 + (i : Int) < 4 + room c v by rw [HRM.out]; omega) zt
              clear hctr hct8 hs hK hm'
              go_wp2_with fail
              go_roundw
              case rel => exact ⟨i + 1, _, _, by omega, by have := HQ1.out; go_num, by go_num, HF8.out, hs8, hK8⟩
              case measure => simp [intOf]; omega
            · obtain rfl : i = rm := by omega
              go_wp2_with fail
              refine (mRoom_any v wr hm' hg).mono ?_; rintro e wx ⟨rfl, rfl⟩
              rw [HRM.out]
              go_wp2_with fail
              go_roundw
              case rel => exact ⟨k + 1 + i, v + 1, mem, n', by omega, by omega, by omega, by go_num, by go_num, HF.out, hs, hK⟩
              case measure => simp [intOf]; omega
        · have hd9 : decide (900 < z) = false := decide_eq_false h9
          have hs7 := hs6
          have hm7 := hm6
          have hK7 := hK6
          have HF7 := HF6
          have hck7 := hck6
          clear hs6 hm6 hK6 HF6
          generalize w6 = w7 at *
          go_wp2_with fail
          try clear hck6
          clear hck7
          go_loopw [6, 8] (fun kv iv wr => ∃ (i : Nat) (mem : List Int) (n' : Int), i ≤ rm ∧ kv = .int .i64 ((k : Int) + 1 + i) ∧ iv = .int .i64 i ∧ Fil c mem ∧ StoreAt wr bs bl mem n' ∧ Kept w wr) (fun kv iv _ => rm - (intOf iv).toNat)
          case atStart => exact ⟨0, _, _, by omega, by simp, rfl, HF7.out, hs7, hK7⟩
          case round =>
            clear hs7 hK7 hm7 HF7 hck
            obtain ⟨i, mem, n', hi, rfl, rfl, hfil, hs, hK⟩ := hrel
            have hm' := hm.kept hK hB
            have zr : w.heap.size ≤ wr.heap.size := hK.size
            have HF : Hid _ := hfil
            clear hfil
            by_cases hil : (i : Int) < rm
            · obtain ⟨q, hq⟩ : ∃ q : Nat, (q : Int) = (k : Int) + 1 + i := ⟨k + 1 + i, by omega⟩
              rw [← hq]
              have hq1 : q = k + 1 + i := by omega
              have yq : IntKind.i64.wrap ((q : Int) + 1) = q + 1 := wrap_small (by omega) (by omega)
              have yi : IntKind.i64.wrap ((i : Int) + 1) = i + 1 := wrap_small (by omega) (by omega)
              obtain ⟨t, htd⟩ : ∃ t : Nat, t = q % fl := ⟨_, rfl⟩
              have htl : t < fl := by rw [htd]; exact Nat.mod_lt _ (by omega)
              have htt : (q : Int).tmod fl = t := by rw [htd]; exact (Int.tmod_eq_emod_of_nonneg (by omega)).trans (by omega)
              obtain ⟨ad', cap', e', hcap', hct⟩ := (show Reads w (.slice (some ad) fl cp) (fs.map (Value.int .u64)) from HR.out).get (i := t) (by rw [List.length_map, HFL.out]; exact htl)
              rw [List.getElem?_map, List.getElem?_eq_getElem (show t < fs.length by rw [HFL.out]; exact htl), Option.map_some] at hct
              have hzt := HZ.out (fs[t]'(by rw [HFL.out]; exact htl)) (List.getElem_mem _)
              generalize fs[t]'(by rw [HFL.out]; exact htl) = zt at *
              simp only [List.length_map, Value.slice.injEq, Option.some.injEq] at e'
              obtain ⟨rfl, hfe, rfl⟩ := e'
              clear hfe
              have htl' : (t : Int) < fl := by omega
              have hctr : wr.cell? (ad.add t) = some (.int .u64 zt) := by rw [Below.cell hK (by exact lt_of_cell hct)]; exact hct
              have HPS : Hid (pSlot c v i = pNode c v (4 + i)) := by unfold Hid pSlot; rw [if_pos ⟨by omega, by rw [HRM.out]; exact hil⟩]
              have HQ1 : Hid (q = k + 1 + i) := hq1
              clear htd hq hq1
              go_wp2_with fail
              refine (mRoom_any v wr hm' hg).mono ?_; rintro e wx ⟨rfl, rfl⟩
              rw [HRM.out]
              go_wp2_with fail
              go_region_held3 (fun w' => w'.cell? (ad.add t) = some (.int .u64 zt)) (first | exact hctr | exact hct8)
                (first
                 | (go_at_call 42; refine (mSlot_any v i _ hm'.drew hg).mono ?_; rintro e wx ⟨rfl, rfl⟩; rw [HPS.out])
                 | (go_at_call 16; refine (put_any (pNode c v (4 + i)) zt _ hs.drew hzt).mono ?_; rintro e w8 ⟨rfl, hs8, hc8⟩
                    have hb8 : Below w.heap.size wr w8 := Below.trans (show Below w.heap.size wr wr.drew from (Below.refl _ _).drew) (hc8.toBelow zr (fun q hq e => by rcases e with e | e <;> omega))
                    have hK8 : Kept w w8 := hK.trans hb8
                    have hct8 : w8.cell? (ad.add t) = some (.int .u64 zt) := by rw [Below.cell hK8 (by exact lt_of_cell hct)]; exact hct))
              have HF8 : Hid _ := HF.out.put hv (.inr (show (4 : Int) ≤ 4 + i by omega)) (show 4 + (i : Int) < 4 + room c v by rw [HRM.out]; omega) zt
              clear hctr hct8 hs hK hm'
              go_wp2_with fail
              go_roundw
              case rel => exact ⟨i + 1, _, _, by omega, by have := HQ1.out; go_num, by go_num, HF8.out, hs8, hK8⟩
              case measure => simp [intOf]; omega
            · obtain rfl : i = rm := by omega
              go_wp2_with fail
              refine (mRoom_any v wr hm' hg).mono ?_; rintro e wx ⟨rfl, rfl⟩
              rw [HRM.out]
              go_wp2_with fail
              go_roundw
              case rel => exact ⟨k + 1 + i, v + 1, mem, n', by omega, by omega, by omega, by go_num, by go_num, HF.out, hs, hK⟩
              case measure => simp [intOf]; omega
      · have hl0 : (fl : Int) = 0 := by omega
        go_wp2_with fail
        refine (mNodes_any wr hm').mono ?_; rintro e wx ⟨rfl, rfl⟩
        rw [HNN.out]
        go_wp2_with fail
        go_ret
        exact ⟨bs, bl, mem, n', rfl, hs, HF.out, hbs, hbl, hK⟩
    · go_wp2_with fail
      refine (mNodes_any wr hm').mono ?_; rintro e wx ⟨rfl, rfl⟩
      rw [HNN.out]
      go_wp2_with fail
      go_ret
      exact ⟨bs, bl, mem, n', rfl, hs, HF.out, hbs, hbl, hK⟩

end Go.Proofs.YtapdpclgbpgklaaGreat
