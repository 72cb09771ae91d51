/- Each step of a packet's machine is the document's: walked (taken). -/
import Derived.Test.YtcejleaedlflaaaPkSt11b
import Derived.Test.YtcejleaedlflaaaPkH
import Derived.Test.YtcejleaedlflaaaPkSm11
import Derived.Test.YtcejleaedlflaaaPkPok11
import Derived.Test.YtcejleaedlflaaaPkRegion2
import Derived.Deep.QuietTactic
import Derived.BigQuiet
namespace Go.Proofs.Ytcejleaedlflaaa
open Go.RowKit

set_option maxRecDepth 8000 in
set_option maxHeartbeats 9600000 in
theorem steps11t (c : Cfg) (kd : Int) (vt : Value) (ts : List Int) (p : Int) (vu : Value) (us : List Int) (vk : Value) (ps : List (Int × Int)) (w : World) (hk0d : 0 ≤ kd ∧ kd ≤ 255) (hr1 : (kd % 3 == 1) = true) (hr2 : (kd % 3 == 2) = false) (ht : Words w vt ts) (hu : Words w vu us) (hk : Pokes w vk ps) :
    Calls Try.prog 4 #[.agg #[.int .i64 c.c0, .int .i64 c.c1, .int .i64 c.c2, .int .i64 c.c3, .int .i64 c.c4, .int .i64 c.mks, .int .i64 c.mus, .int .i64 c.dq, .int .i64 c.ch, .int .i64 c.bu, .int .i64 c.ro, .int .i64 c.sw], .int .u8 kd, vt, .int .i64 p, vu, vk] w fun e w' => e = .returned (.bool true) ∧ Kept w w' := by
  have htr := ht.reads
  obtain ⟨ao, cap, hvt⟩ := htr.form
  rw [List.length_map] at hvt
  subst hvt
  have hur := hu.reads
  obtain ⟨au, cu, hvu⟩ := hur.form
  rw [List.length_map] at hvu
  subst hvu
  obtain ⟨ak, ck, hvk⟩ := hk.form
  subst hvk
  have HT : Hid (∀ W, Kept w W → Reads W (.slice ao ts.length cap) (ts.map (Value.int .u64))) := fun W k => htr.kept k
  have HU : Hid (∀ W, Kept w W → Reads W (.slice au us.length cu) (us.map (Value.int .u64))) := fun W k => hur.kept k
  have HK : Hid (∀ W, Kept w W → Pokes W (.slice ak ps.length ck) ps) := fun W k => hk.kept k
  have HTU : Hid (∀ x ∈ ts, U x) := ht.1
  have HUU : Hid (∀ x ∈ us, U x) := hu.1
  have HTB : Hid (∀ g, (Value.slice ao ts.length cap).ownBlock = some g → 0 < ts.length → g < w.heap.size) := fun g e h0 => by
    rcases htr with ⟨_, e'⟩ | ⟨ad, cap', e', _, _, hcell⟩
    · have := congrArg List.length e'; simp at this; simp [this] at h0
    simp only [Value.slice.injEq] at e'
    obtain ⟨rfl, _, rfl⟩ := e'
    have hb : (ad.add 0).block = ad.block := by unfold Addr.add; split <;> rfl
    simp only [Value.ownBlock, Option.some.injEq] at e
    rw [← e, ← hb]
    exact lt_of_cell (hcell 0 (.int .u64 (ts[0]'h0)) (by rw [List.getElem?_map, List.getElem?_eq_getElem h0]; rfl))
  clear ht htr hu hur hk
  obtain ⟨tl, htl⟩ : ∃ tl, tl = ts.length := ⟨_, rfl⟩
  obtain ⟨ul, hul⟩ : ∃ ul, ul = us.length := ⟨_, rfl⟩
  obtain ⟨pl, hpl⟩ : ∃ pl, pl = ps.length := ⟨_, rfl⟩
  have HTL : Hid (tl = ts.length) := htl
  have HUL : Hid (ul = us.length) := hul
  have HPL : Hid (pl = ps.length) := hpl
  rw [← htl] at HT HTB ⊢
  rw [← hul] at HU ⊢
  rw [← hpl] at HK ⊢
  clear htl hul hpl
  have hb := Blk.new w 24 [.int .i64 c.c0, .int .i64 c.c1, .int .i64 c.c2, .int .i64 c.c3, .int .i64 c.c4, .int .i64 c.mks, .int .i64 c.mus, .int .i64 c.dq, .int .i64 c.ch, .int .i64 c.bu, .int .i64 c.ro, .int .i64 c.sw]
  have hk0 : Kept w (w.alloc (.cells ([.int .i64 c.c0, .int .i64 c.c1, .int .i64 c.c2, .int .i64 c.c3, .int .i64 c.c4, .int .i64 c.mks, .int .i64 c.mus, .int .i64 c.dq, .int .i64 c.ch, .int .i64 c.bu, .int .i64 c.ro, .int .i64 c.sw] : List Value).toArray 24)) := (Below.refl _ _).alloc (Nat.le_refl _) _
  go_enter Try.func4, Try.ntmps4
  go_wp2_with fail
  generalize w.alloc (.cells ([.int .i64 c.c0, .int .i64 c.c1, .int .i64 c.c2, .int .i64 c.c3, .int .i64 c.c4, .int .i64 c.mks, .int .i64 c.mus, .int .i64 c.dq, .int .i64 c.ch, .int .i64 c.bu, .int .i64 c.ro, .int .i64 c.sw] : List Value).toArray 24) = w0 at *
  refine (awake11_any w0).mono ?_; rintro e w1 ⟨rfl, hk1⟩
  have hb1 := hk1.blk hb
  have hK1 : Kept w w1 := hk0.trans' hk1
  clear hb hk0 hk1 
  have c0 := hb1.cell 0
  have c1 := hb1.cell 1
  have c2 := hb1.cell 2
  have c3 := hb1.cell 3
  have c4 := hb1.cell 4
  have c5 := hb1.cell 5
  have c6 := hb1.cell 6
  have c7 := hb1.cell 7
  have c8 := hb1.cell 8
  have c9 := hb1.cell 9
  have c10 := hb1.cell 10
  have c11 := hb1.cell 11
  simp only [List.getElem?_cons_zero, List.getElem?_cons_succ] at c0 c1 c2 c3 c4 c5 c6 c7 c8 c9 c10 c11
  go_wp2_with fail
  refine (small11_any c w1).mono ?_; rintro e w2 ⟨⟨v, rfl, hv⟩, hk2⟩
  have HV : Hid (v = true → Good c ∧ Small c) := hv
  have hb2 := hk2.blk hb1
  have hK2 : Kept w w2 := hK1.trans' hk2
  clear hv hk2 hb1 hK1 c0 c1 c2 c3 c4 c5 c6 c7 c8 c9 c10 c11 
  cases v
  · go_wp2_with fail
    go_ret
    exact ⟨rfl, hK2⟩
  have hgs := HV.out rfl
  have Hg : Hid (Good c ∧ Small c) := hgs
  clear HV hgs
  by_cases h20 : (tl : Int) > 8
  · go_wp2_with fail
    go_ret
    exact ⟨rfl, hK2⟩
  by_cases h21 : (ul : Int) > 20
  · go_wp2_with fail
    go_ret
    exact ⟨rfl, hK2⟩
  by_cases h22 : (pl : Int) > 20
  · go_wp2_with fail
    go_ret
    exact ⟨rfl, hK2⟩
  have htl8 : tl ≤ 8 := by omega
  have hul20 : ul ≤ 20 := by omega
  have hpl20 : pl ≤ 20 := by omega
  clear h20 h21 h22
  have q0 := hb2.cell 0
  have q1 := hb2.cell 1
  have q2 := hb2.cell 2
  have q3 := hb2.cell 3
  have q4 := hb2.cell 4
  have q5 := hb2.cell 5
  have q6 := hb2.cell 6
  have q7 := hb2.cell 7
  have q8 := hb2.cell 8
  have q9 := hb2.cell 9
  have q10 := hb2.cell 10
  have q11 := hb2.cell 11
  simp only [List.getElem?_cons_zero, List.getElem?_cons_succ] at q0 q1 q2 q3 q4 q5 q6 q7 q8 q9 q10 q11
  go_wp2_with fail
  refine (new_good c w2 Hg.out.1).mono ?_; rintro e w3 ⟨bm, rfl, hm3, hk3⟩
  have hK3 : Kept w w3 := hK2.trans' hk3
  have hb3 := hk3.blk hb2
  clear q0 q1 q2 q3 q4 q5 q6 q7 q8 q9 q10 q11 hb2 hk3 hK2
  have q0 := hb3.cell 0
  have q1 := hb3.cell 1
  have q2 := hb3.cell 2
  have q3 := hb3.cell 3
  have q4 := hb3.cell 4
  have q5 := hb3.cell 5
  have q6 := hb3.cell 6
  have q7 := hb3.cell 7
  have q8 := hb3.cell 8
  have q9 := hb3.cell 9
  have q10 := hb3.cell 10
  have q11 := hb3.cell 11
  simp only [List.getElem?_cons_zero, List.getElem?_cons_succ] at q0 q1 q2 q3 q4 q5 q6 q7 q8 q9 q10 q11
  go_wp2_with fail
  refine (model11_any c w3).mono ?_; rintro e wa ⟨rfl, hka⟩
  clear q0 q1 q2 q3 q4 q5 q6 q7 q8 q9 q10 q11 
  go_wp2_with fail
  refine (map_ref c wa Hg.out.1).mono ?_; rintro e wb ⟨vm, rfl, hvm, hkb⟩
  obtain ⟨va, rfl, hTT⟩ := hvm
  obtain ⟨aa, acap, rfl, _⟩ := hTT.ex
  have HV : Hid (∀ W, Kept wb W → MapV W c (.agg #[.slice aa (allT c).length acap, .int .i64 (manyI c)])) := fun W k => ⟨_, rfl, hTT.kept k⟩
  clear hTT
  generalize (allT c).length = ln at *
  go_wp2_with fail
  have hA4 := Blk.new wb 48 [.slice aa ln acap, .int .i64 (manyI c)]
  have hk4 : Kept wb (wb.alloc (.cells ([.slice aa ln acap, .int .i64 (manyI c)] : List Value).toArray 48)) := (Below.refl _ _).alloc (Nat.le_refl _) _
  generalize wb.alloc (.cells ([.slice aa ln acap, .int .i64 (manyI c)] : List Value).toArray 48) = w4 at *
  have z3 : w3.heap.size ≤ w4.heap.size := Nat.le_trans (Nat.le_trans hka.size hkb.size) hk4.size
  have hm4 : MapAt w4 w4.heap.size bm c := (hm3.kept ((hka.trans' hkb).trans' hk4) (Nat.le_refl _)).up z3
  have hK4 : Kept w w4 := hK3.trans' ((hka.trans' hkb).trans' hk4)
  obtain ⟨ab, hab⟩ : ∃ ab, ab = wb.heap.size := ⟨_, rfl⟩
  rw [← hab] at hA4 ⊢
  clear hab
  have HA : Hid (∀ W, Kept w4 W → MapV W c (.agg #[.slice aa ln acap, .int .i64 (manyI c)]) ∧ Blk W ab 48 [.slice aa ln acap, .int .i64 (manyI c)]) := fun W k => ⟨HV.out _ (hk4.trans' k), k.blk hA4⟩
  have hW4 : w.heap.size ≤ w4.heap.size := hK4.size
  have hA0 : ab < w4.heap.size := hA4.lt
  clear HV hb3 hka hkb hm3 hA4 hk4 hK3 z3
  refine (first_any w4 hm4 Hg.out.1 (Nat.le_refl _)).mono ?_; rintro e wc ⟨v4, rfl, hr4, hkc⟩
  obtain ⟨fl0, fl1, fall⟩ := first_facts Hg.out.1
  go_wp2_with fail
  refine (new_any wc hr4 fl0 fl1 fall).mono ?_; rintro e w5 ⟨bs, bl, rfl, hs5, hbs5, hbl5, hkd⟩
  have hk5 : Kept w4 w5 := hkc.trans' hkd
  have hBs : w4.heap.size ≤ bs := Nat.le_trans hkc.size hbs5
  have hBl : w4.heap.size ≤ bl := Nat.le_trans hkc.size hbl5
  clear hr4 hkc hkd hbs5 hbl5 fl0 fl1 fall
  go_wp2_with fail
  go_loopw [19] (fun iv wr => ∃ (i : Nat) (mem : List Int) (n' : Int), i ≤ ul ∧ iv = .int .i64 i ∧ StoreAt wr bs bl mem n' ∧ Kept w4 wr) (fun iv _ => ul - (intOf iv).toNat)
  case atStart => exact ⟨0, firstL c, _, by omega, rfl, hs5, hk5⟩
  case round =>
    clear hs5 hk5
    obtain ⟨i, mem, n', hi, rfl, hs', hbw⟩ := hrel
    have zr := hbw.size
    have hm' : MapAt wr w4.heap.size bm c := hm4.below hbw (Nat.le_refl _)
    have hKr : Kept w wr := hK4.trans' hbw
    by_cases hlt : (i : Int) < ul
    · have hlt' : i < us.length := by have := HUL.out; omega
      obtain ⟨ad, cap', e, hcap, hck⟩ := (HU.out wr hKr).get (i := i) (by simpa using hlt')
      rw [List.getElem?_map, List.getElem?_eq_getElem hlt', Option.map_some] at hck
      have hux := HUU.out us[i] (List.getElem_mem _)
      generalize us[i] = x at *
      simp only [List.length_map, Value.slice.injEq] at e
      obtain ⟨rfl, hulx, rfl⟩ := e
      clear hulx hcap
      have hi0 : (0 : Int) ≤ i := by omega
      have hka : Kept wr (wr.alloc (.cells #[.int .u64 x] 39)) := (Below.refl _ _).alloc (Nat.le_refl _) _
      have hba : Blk (wr.alloc (.cells #[.int .u64 x] 39)) wr.heap.size 39 [.int .u64 x] := Blk.new wr _ _
      have hcells : ∀ (j : Nat) (u : Value), (([x] : List Int).map (Value.int .u64))[j]? = some u → (wr.alloc (.cells #[.int .u64 x] 39)).cell? ((⟨wr.heap.size, 0, none⟩ : Addr).add j) = some u := by
        intro j u hj
        match j, hj with
        | 0, hj => simp at hj; subst hj; exact hba.cell 0
      have hsa := hs'.kept hka
      have hma : MapAt (wr.alloc (.cells #[.int .u64 x] 39)) w4.heap.size bm c := hm'.kept hka (by omega)
      have hUs : ∀ z ∈ ([x] : List Int), U z := by
        intro z hz
        simp at hz
        rw [hz]; exact hux
      have P := packPut_any (bm := bm) (ad := ⟨wr.heap.size, 0, none⟩) (cap := 1) (ts := [x]) _ hsa hma (by simp) hcells hba.lt hUs (by simp) (by simp)
      clear hcells
      go_wp2_with fail
      refine P.mono ?_; rintro e w7 ⟨b, bi, gt, rfl, hp7, hpb, hpbi, hpgt, hpgl, hk7⟩
      go_wp2_with fail
      refine (whole11_any (B := w4.heap.size) _ Hg.out.1 hp7 (hsa.kept hk7) (hma.kept hk7 (by simp; omega)) (by have := hk7.size; simp at this; omega) hpgl ⟨fun _ => ⟨rfl, by simp⟩, fun e => by cases e⟩ (by simp at hpb; omega) (by simp at hpbi; omega) hBs hBl).mono ?_; rintro e w8 ⟨rfl, hran, hch⟩
      obtain ⟨bi', n2, _, _, hs9⟩ := hran
      have hb9 : Kept w4 w8 := ((hbw.trans' hka).trans' hk7).trans (hch.toBelow (by have := hk7.size; simp at this; omega) (fun q hq e => by simp at hpb hpbi; rcases e with e | e | e | e <;> omega))
      clear hch hk7 hp7 hsa hma hka hba P hck
      go_wp2_with fail
      go_roundw
      case rel => exact ⟨i + 1, _, n2, by omega, by go_num, hs9, hb9⟩
      case measure => simp [intOf]; omega
    · obtain rfl : i = ul := by omega
      generalize wr = w6 at *
      clear hlt hi
      have hlp := hs'.pos
      have hle := hs'.le
      go_wp2_with fail
      refine (mAll_any _ hs').mono ?_; rintro e w7 ⟨rfl, hb7, hk7⟩
      have hr7 : MemV w7 (.slice (some ⟨w6.heap.size, 0, none⟩) mem.length mem.length) mem := by
        have := hb7.row (by simp; unfold maxLen; omega)
        simpa using this
      have hs7 := hs'.kept hk7
      have hb7' : Kept w4 w7 := hbw.trans' hk7
      have z6 := hb7.lt
      have HS : Hid (StoreAt w7 bs bl mem n' ∧ MemV w7 (.slice (some ⟨w6.heap.size, 0, none⟩) mem.length mem.length) mem ∧ Kept w4 w7 ∧ MapAt w7 w4.heap.size bm c) := ⟨hs7, hr7, hb7', hm4.below hb7' (Nat.le_refl _)⟩
      have HSZ : Hid (w4.heap.size ≤ w6.heap.size ∧ w6.heap.size < w7.heap.size ∧ bs < w6.heap.size ∧ bl < w6.heap.size ∧ 0 < mem.length ∧ mem.length ≤ 20000 ∧ ∀ x ∈ mem, U x) := ⟨zr, z6, hs'.lt.1, hs'.lt.2, hlp, hle, hs'.all⟩
      clear hs' hbw hb7 hr7 hs7 hb7' hm' hKr hk7 zr z6 hlp hle
      obtain ⟨lb, hlb⟩ : ∃ lb, lb = w6.heap.size := ⟨_, rfl⟩
      obtain ⟨ml, hml⟩ : ∃ ml, ml = mem.length := ⟨_, rfl⟩
      have HML : Hid (ml = mem.length) := hml
      rw [← hlb, ← hml] at HS HSZ ⊢
      clear hlb hml
      clear w6
      go_wp2_with fail
      refine (putU w7 HS.out.1 HS.out.2.2.2 (HS.out.2.2.1).size (HT.out _ (hK4.trans' HS.out.2.2.1)) HTL.out HTU.out (by have := HTL.out; omega)).mono ?_; rintro e w8 ⟨bx, rfl, hx8, hk8⟩
      have hw8 : Kept w4 w8 := HS.out.2.2.1.trans' hk8
      obtain ⟨h1, h2⟩ := HA.out w8 hw8
      have c0 := h2.cell 0
      have c1 := h2.cell 1
      simp only [List.getElem?_cons_zero, List.getElem?_cons_succ] at c0 c1
      go_wp2_with fail
      refine (putRU w8 Hg.out.1 h1 (HT.out _ (hK4.trans' hw8)) HTL.out (by have := HTL.out; omega)).mono ?_; rintro e w9 ⟨v9, tv, xv, rfl, hr9, hk9, hxv, htv⟩
      have hw9 : Kept w4 w9 := hw8.trans' hk9
      have z8 := hk8.size
      have z9 := hk9.size
      clear h1 h2 c0 c1
      obtain ⟨z0, z1, z2, z3, z4, z5, z6, z7, rfl, htr9, ⟨ro, rn, rc, rfl⟩, _⟩ := id hr9.ex
      obtain ⟨uo, uc, rfl⟩ := htr9.form
      clear htr9 htv hxv hx8 hr9
      generalize put0 ts = s9 at *
      generalize (s9.tasks.map (Value.int .u64)).length = un at *
      generalize pcN11 s9.pc = pc9 at *
      generalize (s9.j : Int) = j9 at *
      generalize s9.p = p9 at *
      go_wp2_with fail
      have hC := Blk.new w9 60 [.int .i64 z0, .int .i64 pc9, .slice uo un uc, .int .i64 j9, .int .i64 p9, .int .i64 z1, .int .i64 z2, .int .i64 z3, .slice ro rn rc, .int .u32 z4, .int .u64 z5, .int .u32 z6, .int .i64 z7]
      have hkC : Kept w9 (w9.alloc (.cells ([.int .i64 z0, .int .i64 pc9, .slice uo un uc, .int .i64 j9, .int .i64 p9, .int .i64 z1, .int .i64 z2, .int .i64 z3, .slice ro rn rc, .int .u32 z4, .int .u64 z5, .int .u32 z6, .int .i64 z7] : List Value).toArray 60)) := (Below.refl _ _).alloc (Nat.le_refl _) _
      generalize w9.alloc (.cells ([.int .i64 z0, .int .i64 pc9, .slice uo un uc, .int .i64 j9, .int .i64 p9, .int .i64 z1, .int .i64 z2, .int .i64 z3, .slice ro rn rc, .int .u32 z4, .int .u64 z5, .int .u32 z6, .int .i64 z7] : List Value).toArray 60) = w10 at *
      obtain ⟨yb, hyb⟩ : ∃ yb, yb = w9.heap.size := ⟨_, rfl⟩
      have HYB : Hid (yb = w9.heap.size) := hyb
      rw [← hyb] at hC ⊢
      clear hyb
      have hw10 : Kept w4 w10 := hw9.trans' hkC
      have hk710 : Kept w7 w10 := (hk8.trans' hk9).trans' hkC
      have hS10 : StoreAt w10 bs bl mem n' ∧ MemV w10 (.slice (some ⟨lb, 0, none⟩) ml ml) mem ∧ Kept w4 w10 ∧ MapAt w10 w4.heap.size bm c := ⟨HS.out.1.kept hk710, Row.kept HS.out.2.1 hk710, hw10, hm4.below hw10 (Nat.le_refl _)⟩
      refine (takeU w10 (hS10.1) hS10.2.2.2 (hS10.2.2.1).size hBs hBl).mono ?_; rintro e w11 ⟨b, rfl, hx11, hk11⟩
      have hw11 : Kept w4 w11 := hw10.trans' hk11
      have hl11 : MemV w11 (.slice (some ⟨lb, 0, none⟩) ml ml) mem := Row.kept hS10.2.1 hk11
      have hs11 : StoreAt w11 bs bl mem n' := hS10.1.kept hk11
      have HS11 : Hid (MemV w11 (.slice (some ⟨lb, 0, none⟩) ml ml) mem ∧ StoreAt w11 bs bl mem n') := ⟨hl11, hs11⟩
      clear hS10 hl11 hs11
      obtain ⟨h1, h2⟩ := HA.out w11 hw11
      have c0 := h2.cell 0
      have c1 := h2.cell 1
      simp only [List.getElem?_cons_zero, List.getElem?_cons_succ] at c0 c1
      go_wp2_with fail
      refine (takeRU (.slice ao tl cap) tl w11 Hg.out.1 h1).mono ?_; rintro e w12 ⟨v12, tv, xv, rfl, hr12, hk12, hxv, htv⟩
      have hw12 : Kept w4 w12 := hw11.trans' hk12
      clear h1 h2 c0 c1
      obtain ⟨y0, y1, y2, y3, y4, y5, y6, y7, rfl, htr9, ⟨xo, xn, xc, rfl⟩, _⟩ := id hr12.ex
      obtain ⟨to, tc, rfl⟩ := htr9.form
      clear htr9
      generalize hs0 : take0 = s0 at *
      clear hs0
      obtain ⟨tn, htn⟩ : ∃ tn, tn = (s0.tasks.map (Value.int .u64)).length := ⟨_, rfl⟩
      obtain ⟨pc0, hpc0⟩ : ∃ pc0, pc0 = pcN11 s0.pc := ⟨_, rfl⟩
      have HR9 : Hid (R11 w12 (.agg (r11L y0 (pcN11 s0.pc) (.slice to (s0.tasks.map (Value.int .u64)).length tc) s0.j s0.p y1 y2 y3 (.slice xo xn xc) y4 y5 y6 y7).toArray) (linksL c) (.slice to (s0.tasks.map (Value.int .u64)).length tc) (.slice xo xn xc) s0) := hr12
      rw [← htn] at HR9
      rw [← hpc0] at HR9
      have HTV : Hid (∀ g, (Value.slice to tn tc).ownBlock = some g → (Value.slice ao tl cap).ownBlock = some g ∧ 0 < tl) := by rw [htn]; exact htv
      have HXV : Hid (∀ g, (Value.slice xo xn xc).ownBlock = some g → w11.heap.size ≤ g) := hxv
      rw [← htn]
      simp only [← hpc0]
      clear htn hpc0 htv hxv hr12
      have hy12 := (hk11.trans' hk12).blk hC
      have k0 := hy12.cell 0
      have k1 := hy12.cell 1
      have k2 := hy12.cell 2
      have k3 := hy12.cell 3
      have k4 := hy12.cell 4
      have k5 := hy12.cell 5
      have k6 := hy12.cell 6
      have k7 := hy12.cell 7
      have k8 := hy12.cell 8
      have k9 := hy12.cell 9
      have k10 := hy12.cell 10
      have k11 := hy12.cell 11
      have k12 := hy12.cell 12
      have fk0 := hy12.free 0
      have fk1 := hy12.free 1
      have fk2 := hy12.free 2
      have fk3 := hy12.free 3
      have fk4 := hy12.free 4
      have fk5 := hy12.free 5
      have fk6 := hy12.free 6
      have fk7 := hy12.free 7
      have fk8 := hy12.free 8
      have fk9 := hy12.free 9
      have fk10 := hy12.free 10
      have fk11 := hy12.free 11
      have fk12 := hy12.free 12
      simp only [List.getElem?_cons_zero, List.getElem?_cons_succ] at k0 k1 k2 k3 k4 k5 k6 k7 k8 k9 k10 k11 k12
      go_wp2_with fail
      clear k0 k1 k2 k3 k4 k5 k6 k7 k8 k9 k10 k11 k12 fk0 fk1 fk2 fk3 fk4 fk5 fk6 fk7 fk8 fk9 fk10 fk11 fk12
      have hy13 : Blk (((((((((((((w12.setCell ⟨yb, 0, none⟩ (.int .i64 y0)).setCell ⟨yb, 1, none⟩ (.int .i64 pc0)).setCell ⟨yb, 2, none⟩ (.slice to tn tc)).setCell ⟨yb, 3, none⟩ (.int .i64 s0.j)).setCell ⟨yb, 4, none⟩ (.int .i64 s0.p)).setCell ⟨yb, 5, none⟩ (.int .i64 y1)).setCell ⟨yb, 6, none⟩ (.int .i64 y2)).setCell ⟨yb, 7, none⟩ (.int .i64 y3)).setCell ⟨yb, 8, none⟩ (.slice xo xn xc)).setCell ⟨yb, 9, none⟩ (.int .u32 y4)).setCell ⟨yb, 10, none⟩ (.int .u64 y5)).setCell ⟨yb, 11, none⟩ (.int .u32 y6)).setCell ⟨yb, 12, none⟩ (.int .i64 y7)) yb 60 [.int .i64 y0, .int .i64 pc0, .slice to tn tc, .int .i64 s0.j, .int .i64 s0.p, .int .i64 y1, .int .i64 y2, .int .i64 y3, .slice xo xn xc, .int .u32 y4, .int .u64 y5, .int .u32 y6, .int .i64 y7] := (((((((((((((hy12.set' 0 (.int .i64 y0) rfl).set' 1 (.int .i64 pc0) rfl).set' 2 (.slice to tn tc) rfl).set' 3 (.int .i64 s0.j) rfl).set' 4 (.int .i64 s0.p) rfl).set' 5 (.int .i64 y1) rfl).set' 6 (.int .i64 y2) rfl).set' 7 (.int .i64 y3) rfl).set' 8 (.slice xo xn xc) rfl).set' 9 (.int .u32 y4) rfl).set' 10 (.int .u64 y5) rfl).set' 11 (.int .u32 y6) rfl).set' 12 (.int .i64 y7) rfl)
      have hc13 : Chg (fun q => q = yb) w12 (((((((((((((w12.setCell ⟨yb, 0, none⟩ (.int .i64 y0)).setCell ⟨yb, 1, none⟩ (.int .i64 pc0)).setCell ⟨yb, 2, none⟩ (.slice to tn tc)).setCell ⟨yb, 3, none⟩ (.int .i64 s0.j)).setCell ⟨yb, 4, none⟩ (.int .i64 s0.p)).setCell ⟨yb, 5, none⟩ (.int .i64 y1)).setCell ⟨yb, 6, none⟩ (.int .i64 y2)).setCell ⟨yb, 7, none⟩ (.int .i64 y3)).setCell ⟨yb, 8, none⟩ (.slice xo xn xc)).setCell ⟨yb, 9, none⟩ (.int .u32 y4)).setCell ⟨yb, 10, none⟩ (.int .u64 y5)).setCell ⟨yb, 11, none⟩ (.int .u32 y6)).setCell ⟨yb, 12, none⟩ (.int .i64 y7)) := ((((((((((((((Chg.refl (fun q => q = yb) w12).setCell ⟨yb, 0, none⟩ (.int .i64 y0) (fun _ => rfl)).setCell ⟨yb, 1, none⟩ (.int .i64 pc0) (fun _ => rfl)).setCell ⟨yb, 2, none⟩ (.slice to tn tc) (fun _ => rfl)).setCell ⟨yb, 3, none⟩ (.int .i64 s0.j) (fun _ => rfl)).setCell ⟨yb, 4, none⟩ (.int .i64 s0.p) (fun _ => rfl)).setCell ⟨yb, 5, none⟩ (.int .i64 y1) (fun _ => rfl)).setCell ⟨yb, 6, none⟩ (.int .i64 y2) (fun _ => rfl)).setCell ⟨yb, 7, none⟩ (.int .i64 y3) (fun _ => rfl)).setCell ⟨yb, 8, none⟩ (.slice xo xn xc) (fun _ => rfl)).setCell ⟨yb, 9, none⟩ (.int .u32 y4) (fun _ => rfl)).setCell ⟨yb, 10, none⟩ (.int .u64 y5) (fun _ => rfl)).setCell ⟨yb, 11, none⟩ (.int .u32 y6) (fun _ => rfl)).setCell ⟨yb, 12, none⟩ (.int .i64 y7) (fun _ => rfl))
      generalize (((((((((((((w12.setCell ⟨yb, 0, none⟩ (.int .i64 y0)).setCell ⟨yb, 1, none⟩ (.int .i64 pc0)).setCell ⟨yb, 2, none⟩ (.slice to tn tc)).setCell ⟨yb, 3, none⟩ (.int .i64 s0.j)).setCell ⟨yb, 4, none⟩ (.int .i64 s0.p)).setCell ⟨yb, 5, none⟩ (.int .i64 y1)).setCell ⟨yb, 6, none⟩ (.int .i64 y2)).setCell ⟨yb, 7, none⟩ (.int .i64 y3)).setCell ⟨yb, 8, none⟩ (.slice xo xn xc)).setCell ⟨yb, 9, none⟩ (.int .u32 y4)).setCell ⟨yb, 10, none⟩ (.int .u64 y5)).setCell ⟨yb, 11, none⟩ (.int .u32 y6)).setCell ⟨yb, 12, none⟩ (.int .i64 y7)) = wz at *
      have HST : Hid (St c w4 bm bs bl b yb (.slice to tn tc) wz mem n' s0 (.slice (some ⟨lb, 0, none⟩) ml ml) mem [.int .i64 y0, .int .i64 pc0, .slice to tn tc, .int .i64 s0.j, .int .i64 s0.p, .int .i64 y1, .int .i64 y2, .int .i64 y3, .slice xo xn xc, .int .u32 y4, .int .u64 y5, .int .u32 y6, .int .i64 y7] (.slice xo xn xc) s0) := by
        have e1 := HYB.out
        obtain ⟨q1, q2, q3, q4, q5, _⟩ := HSZ.out
        have q5' : 0 < mem.length := by have := HML.out; omega
        have q6 := hC.lt
        have q7 := hk11.size
        have q8 := hk12.size
        have q9 := hkC.size
        exact St.init (N := w10.heap.size) hx11 hw11 hk12 HS11.out.2 ⟨hBs, hBl⟩ HS11.out.1 q5' (fun g e => by simp [Value.ownBlock] at e; omega) HR9.out (fun a1 a2 g e => by have := HXV.out g e; exact ⟨this, by omega⟩) ⟨by omega, by omega, by omega, by omega, by omega⟩ (fun g e => by have := HTV.out g e; have := HTB.out g this.1 this.2; omega) hc13 hy13
      clear hx11 HR9 hC hkC hy12 hy13 hc13 hk710
      clear HXV HYB HS HSZ
      have hw16 : IntKind.i64.wrap ((pl : Int) + 16) = (pl : Int) + 16 := IntWalk.i64_in _ (by omega)
      go_loopw [20, 23] (fun lv iv wr => ∃ (i : Nat) (mem : List Int) (n' : Int) (s : PM) (ys : List Value) (xvl : Value), i ≤ pl + 16 ∧ iv = .int .i64 i ∧ St c w4 bm bs bl b yb (.slice to tn tc) wr mem n' s lv mem ys xvl s) (fun _ iv _ => pl + 16 - (intOf iv).toNat)
      case atStart => exact ⟨0, mem, n', s0, _, _, by omega, rfl, HST.out⟩
      case round =>
        clear HST
        obtain ⟨i, mem, n', s, ys, xvl, hi, rfl, h⟩ := hrel
        by_cases hlt : (i : Int) < (pl : Int) + 16
        · have hi0 : (0 : Int) ≤ i := by omega
          obtain ⟨mo, mc, hlv⟩ := h.m.form
          obtain ⟨ml, hml⟩ : ∃ ml, ml = (mem.map (Value.int .u64)).length := ⟨_, rfl⟩
          rw [← hml] at hlv
          subst hlv
          have HML : Hid (ml = mem.length) := by rw [hml]; simp [Hid]
          clear hml
          obtain ⟨y0, y1, y2, y3, y4, y5, y6, y7, hys, _, ⟨xo, xn, xc, rfl⟩, _⟩ := id h.rr.ex
          obtain rfl := agg_cells hys
          clear hys
          have D := h.x.step (n := n') Hg.out.1 h.st (hm4.below h.k (Nat.le_refl _)) hBs hBl h.ylt
          have hpm := h.x.1
          have hall := h.st.all
          have hlen := h.st.le
          have R := fun W (hr : R11 W (.agg (r11L y0 (pcN11 s.pc) (.slice to tn tc) s.j s.p y1 y2 y3 (.slice xo xn xc) y4 y5 y6 y7).toArray) (linksL c) (.slice to tn tc) (.slice xo xn xc) s) (hm : MemV W (.slice mo ml mc) mem) (hk : Kept w4 W) => step11_ref W Hg.out.1 (HA.out W hk).1 hr hm hall hlen hpm.fill
          generalize pmStep c mem s = q2 at D R
          obtain ⟨mem2, s2⟩ := q2
          simp only at D R
          obtain ⟨f2, hf2⟩ : ∃ f2, s2.pc.fin = f2 := ⟨_, rfl⟩
          obtain ⟨pn, hpn⟩ : ∃ pn, pcN11 s2.pc = pn := ⟨_, rfl⟩
          obtain ⟨po, hpo⟩ : ∃ po, pcN11 s.pc = po := ⟨_, rfl⟩
          have HPN : Hid (pcN11 s2.pc = pn) := hpn
          have hz2 : (pn == 0) = f2 := by rw [← hpn, ← hf2]; exact pcN11_zero _
          obtain ⟨n2, hn2⟩ : ∃ n2, cntIf s.pc.fin n' = n2 := ⟨_, rfl⟩
          have hwas : (n2 == IntKind.i64.wrap (n' + 1)) = decide (po > 0) := by rw [← hn2, ← hpo]; exact cnt_was n' _
          rw [hf2, hn2] at D
          rw [hpo] at h R
          clear hf2 hpn hpo hn2 hpm hall hlen
          have k1 := h.y.cell 1
          simp only [List.getElem?_cons_zero, List.getElem?_cons_succ] at k1
          have HH : Hid (St c w4 bm bs bl b yb (.slice to tn tc) wr mem n' s (.slice mo ml mc) mem [.int .i64 y0, .int .i64 po, .slice to tn tc, .int .i64 s.j, .int .i64 s.p, .int .i64 y1, .int .i64 y2, .int .i64 y3, .slice xo xn xc, .int .u32 y4, .int .u64 y5, .int .u32 y6, .int .i64 y7] (.slice xo xn xc) s) := h
          clear h
          go_wp2_with fail
          refine (mCount_any wr HH.out.st).mono ?_; rintro e w8 ⟨rfl, rfl⟩
          go_wp2_with fail
          refine D.mono ?_; rintro e w10 ⟨rfl, hx10, hs10, hc10⟩
          have h10 := HH.out.moved hx10 hs10 hc10
          have HR := R w10 h10.rr h10.m h10.k
          clear D hx10 hs10 hc10 HH k1 R
          have hy10 := h10.y
          have k0 := hy10.cell 0
          have k1 := hy10.cell 1
          have k2 := hy10.cell 2
          have k3 := hy10.cell 3
          have k4 := hy10.cell 4
          have k5 := hy10.cell 5
          have k6 := hy10.cell 6
          have k7 := hy10.cell 7
          have k8 := hy10.cell 8
          have k9 := hy10.cell 9
          have k10 := hy10.cell 10
          have k11 := hy10.cell 11
          have k12 := hy10.cell 12
          simp only [List.getElem?_cons_zero, List.getElem?_cons_succ] at k0 k1 k2 k3 k4 k5 k6 k7 k8 k9 k10 k11 k12
          have h2 := (HA.out w10 h10.k).2
          have c0 := h2.cell 0
          have c1 := h2.cell 1
          simp only [List.getElem?_cons_zero, List.getElem?_cons_succ] at c0 c1
          have H10 : Hid (St c w4 bm bs bl b yb (.slice to tn tc) w10 mem2 n2 s2 (.slice mo ml mc) mem [.int .i64 y0, .int .i64 po, .slice to tn tc, .int .i64 s.j, .int .i64 s.p, .int .i64 y1, .int .i64 y2, .int .i64 y3, .slice xo xn xc, .int .u32 y4, .int .u64 y5, .int .u32 y6, .int .i64 y7] (.slice xo xn xc) s) := h10
          clear h10
          go_wp2_with fail
          refine HR.mono ?_; rintro e w11 ⟨l2, v2, xvl2, rfl, hm11, hr11, hk11, hl11, hx11⟩
          obtain ⟨v0, v1, v3, v4, v5, v6, v7, v8, rfl, _, ⟨qo, qn, qc, rfl⟩, _⟩ := id hr11.ex
          rw [HPN.out] at hr11 ⊢
          obtain ⟨j2, hj2⟩ : ∃ j2 : Int, (s2.j : Int) = j2 := ⟨_, rfl⟩
          obtain ⟨p2, hp2⟩ : ∃ p2 : Int, s2.p = p2 := ⟨_, rfl⟩
          rw [hj2, hp2] at hr11 ⊢
          clear hj2 hp2 h2 c0 c1 k0 k1 k2 k3 k4 k5 k6 k7 k8 k9 k10 k11 k12 HR
          have hz := Blk.new w11 60 [.int .i64 v0, .int .i64 pn, .slice to tn tc, .int .i64 j2, .int .i64 p2, .int .i64 v1, .int .i64 v3, .int .i64 v4, .slice qo qn qc, .int .u32 v5, .int .u64 v6, .int .u32 v7, .int .i64 v8]
          have hkz : Kept w11 (w11.alloc (.cells ([.int .i64 v0, .int .i64 pn, .slice to tn tc, .int .i64 j2, .int .i64 p2, .int .i64 v1, .int .i64 v3, .int .i64 v4, .slice qo qn qc, .int .u32 v5, .int .u64 v6, .int .u32 v7, .int .i64 v8] : List Value).toArray 60)) := (Below.refl _ _).alloc (Nat.le_refl _) _
          have hya := hkz.blk (hk11.blk hy10)
          have k0 := hz.cell 0
          have k1 := hz.cell 1
          have k2 := hz.cell 2
          have k3 := hz.cell 3
          have k4 := hz.cell 4
          have k5 := hz.cell 5
          have k6 := hz.cell 6
          have k7 := hz.cell 7
          have k8 := hz.cell 8
          have k9 := hz.cell 9
          have k10 := hz.cell 10
          have k11 := hz.cell 11
          have k12 := hz.cell 12
          simp only [List.getElem?_cons_zero, List.getElem?_cons_succ] at k0 k1 k2 k3 k4 k5 k6 k7 k8 k9 k10 k11 k12
          have m0 := hya.cell 0
          have m1 := hya.cell 1
          have m2 := hya.cell 2
          have m3 := hya.cell 3
          have m4 := hya.cell 4
          have m5 := hya.cell 5
          have m6 := hya.cell 6
          have m7 := hya.cell 7
          have m8 := hya.cell 8
          have m9 := hya.cell 9
          have m10 := hya.cell 10
          have m11 := hya.cell 11
          have m12 := hya.cell 12
          have fm0 := hya.free 0
          have fm1 := hya.free 1
          have fm2 := hya.free 2
          have fm3 := hya.free 3
          have fm4 := hya.free 4
          have fm5 := hya.free 5
          have fm6 := hya.free 6
          have fm7 := hya.free 7
          have fm8 := hya.free 8
          have fm9 := hya.free 9
          have fm10 := hya.free 10
          have fm11 := hya.free 11
          have fm12 := hya.free 12
          simp only [List.getElem?_cons_zero, List.getElem?_cons_succ] at m0 m1 m2 m3 m4 m5 m6 m7 m8 m9 m10 m11 m12
          go_wp2_with fail
          clear hw16 HPN k0 k1 k2 k3 k4 k5 k6 k7 k8 k9 k10 k11 k12 m0 m1 m2 m3 m4 m5 m6 m7 m8 m9 m10 m11 m12 fm0 fm1 fm2 fm3 fm4 fm5 fm6 fm7 fm8 fm9 fm10 fm11 fm12
          have hy12 : Blk ((((((((((((((w11.alloc (.cells ([.int .i64 v0, .int .i64 pn, .slice to tn tc, .int .i64 j2, .int .i64 p2, .int .i64 v1, .int .i64 v3, .int .i64 v4, .slice qo qn qc, .int .u32 v5, .int .u64 v6, .int .u32 v7, .int .i64 v8] : List Value).toArray 60)).setCell ⟨yb, 0, none⟩ (.int .i64 v0)).setCell ⟨yb, 1, none⟩ (.int .i64 pn)).setCell ⟨yb, 2, none⟩ (.slice to tn tc)).setCell ⟨yb, 3, none⟩ (.int .i64 j2)).setCell ⟨yb, 4, none⟩ (.int .i64 p2)).setCell ⟨yb, 5, none⟩ (.int .i64 v1)).setCell ⟨yb, 6, none⟩ (.int .i64 v3)).setCell ⟨yb, 7, none⟩ (.int .i64 v4)).setCell ⟨yb, 8, none⟩ (.slice qo qn qc)).setCell ⟨yb, 9, none⟩ (.int .u32 v5)).setCell ⟨yb, 10, none⟩ (.int .u64 v6)).setCell ⟨yb, 11, none⟩ (.int .u32 v7)).setCell ⟨yb, 12, none⟩ (.int .i64 v8)) yb 60 [.int .i64 v0, .int .i64 pn, .slice to tn tc, .int .i64 j2, .int .i64 p2, .int .i64 v1, .int .i64 v3, .int .i64 v4, .slice qo qn qc, .int .u32 v5, .int .u64 v6, .int .u32 v7, .int .i64 v8] := (((((((((((((hya.set' 0 (.int .i64 v0) rfl).set' 1 (.int .i64 pn) rfl).set' 2 (.slice to tn tc) rfl).set' 3 (.int .i64 j2) rfl).set' 4 (.int .i64 p2) rfl).set' 5 (.int .i64 v1) rfl).set' 6 (.int .i64 v3) rfl).set' 7 (.int .i64 v4) rfl).set' 8 (.slice qo qn qc) rfl).set' 9 (.int .u32 v5) rfl).set' 10 (.int .u64 v6) rfl).set' 11 (.int .u32 v7) rfl).set' 12 (.int .i64 v8) rfl)
          have hc12 : Chg (fun q => q = yb) (w11.alloc (.cells ([.int .i64 v0, .int .i64 pn, .slice to tn tc, .int .i64 j2, .int .i64 p2, .int .i64 v1, .int .i64 v3, .int .i64 v4, .slice qo qn qc, .int .u32 v5, .int .u64 v6, .int .u32 v7, .int .i64 v8] : List Value).toArray 60)) ((((((((((((((w11.alloc (.cells ([.int .i64 v0, .int .i64 pn, .slice to tn tc, .int .i64 j2, .int .i64 p2, .int .i64 v1, .int .i64 v3, .int .i64 v4, .slice qo qn qc, .int .u32 v5, .int .u64 v6, .int .u32 v7, .int .i64 v8] : List Value).toArray 60)).setCell ⟨yb, 0, none⟩ (.int .i64 v0)).setCell ⟨yb, 1, none⟩ (.int .i64 pn)).setCell ⟨yb, 2, none⟩ (.slice to tn tc)).setCell ⟨yb, 3, none⟩ (.int .i64 j2)).setCell ⟨yb, 4, none⟩ (.int .i64 p2)).setCell ⟨yb, 5, none⟩ (.int .i64 v1)).setCell ⟨yb, 6, none⟩ (.int .i64 v3)).setCell ⟨yb, 7, none⟩ (.int .i64 v4)).setCell ⟨yb, 8, none⟩ (.slice qo qn qc)).setCell ⟨yb, 9, none⟩ (.int .u32 v5)).setCell ⟨yb, 10, none⟩ (.int .u64 v6)).setCell ⟨yb, 11, none⟩ (.int .u32 v7)).setCell ⟨yb, 12, none⟩ (.int .i64 v8)) := ((((((((((((((Chg.refl (fun q => q = yb) (w11.alloc (.cells ([.int .i64 v0, .int .i64 pn, .slice to tn tc, .int .i64 j2, .int .i64 p2, .int .i64 v1, .int .i64 v3, .int .i64 v4, .slice qo qn qc, .int .u32 v5, .int .u64 v6, .int .u32 v7, .int .i64 v8] : List Value).toArray 60))).setCell ⟨yb, 0, none⟩ (.int .i64 v0) (fun _ => rfl)).setCell ⟨yb, 1, none⟩ (.int .i64 pn) (fun _ => rfl)).setCell ⟨yb, 2, none⟩ (.slice to tn tc) (fun _ => rfl)).setCell ⟨yb, 3, none⟩ (.int .i64 j2) (fun _ => rfl)).setCell ⟨yb, 4, none⟩ (.int .i64 p2) (fun _ => rfl)).setCell ⟨yb, 5, none⟩ (.int .i64 v1) (fun _ => rfl)).setCell ⟨yb, 6, none⟩ (.int .i64 v3) (fun _ => rfl)).setCell ⟨yb, 7, none⟩ (.int .i64 v4) (fun _ => rfl)).setCell ⟨yb, 8, none⟩ (.slice qo qn qc) (fun _ => rfl)).setCell ⟨yb, 9, none⟩ (.int .u32 v5) (fun _ => rfl)).setCell ⟨yb, 10, none⟩ (.int .u64 v6) (fun _ => rfl)).setCell ⟨yb, 11, none⟩ (.int .u32 v7) (fun _ => rfl)).setCell ⟨yb, 12, none⟩ (.int .i64 v8) (fun _ => rfl))
          generalize ((((((((((((((w11.alloc (.cells ([.int .i64 v0, .int .i64 pn, .slice to tn tc, .int .i64 j2, .int .i64 p2, .int .i64 v1, .int .i64 v3, .int .i64 v4, .slice qo qn qc, .int .u32 v5, .int .u64 v6, .int .u32 v7, .int .i64 v8] : List Value).toArray 60)).setCell ⟨yb, 0, none⟩ (.int .i64 v0)).setCell ⟨yb, 1, none⟩ (.int .i64 pn)).setCell ⟨yb, 2, none⟩ (.slice to tn tc)).setCell ⟨yb, 3, none⟩ (.int .i64 j2)).setCell ⟨yb, 4, none⟩ (.int .i64 p2)).setCell ⟨yb, 5, none⟩ (.int .i64 v1)).setCell ⟨yb, 6, none⟩ (.int .i64 v3)).setCell ⟨yb, 7, none⟩ (.int .i64 v4)).setCell ⟨yb, 8, none⟩ (.slice qo qn qc)).setCell ⟨yb, 9, none⟩ (.int .u32 v5)).setCell ⟨yb, 10, none⟩ (.int .u64 v6)).setCell ⟨yb, 11, none⟩ (.int .u32 v7)).setCell ⟨yb, 12, none⟩ (.int .i64 v8)) = w12 at *
          have h12 : St c w4 bm bs bl b yb (.slice to tn tc) w12 mem2 n2 s2 l2 mem2 [.int .i64 v0, .int .i64 pn, .slice to tn tc, .int .i64 j2, .int .i64 p2, .int .i64 v1, .int .i64 v3, .int .i64 v4, .slice qo qn qc, .int .u32 v5, .int .u64 v6, .int .u32 v7, .int .i64 v8] (.slice qo qn qc) s2 := H10.out.refd (hk11.trans' hkz) (Row.kept hm11 hkz) (hr11.kept hkz) hl11 hx11 H10.out.st.pos hc12 hy12
          clear H10 hz hkz hya hy10 hm11 hr11 hk11 hl11 hx11 hc12 hy12
          have h13 := h12.kept (show Kept w12 w12.drew from (Below.refl _ _).drew)
          have hy13 := h13.y
          have d0 := hy13.cell 0
          have d1 := hy13.cell 1
          have d2 := hy13.cell 2
          have d3 := hy13.cell 3
          have d4 := hy13.cell 4
          have d5 := hy13.cell 5
          have d6 := hy13.cell 6
          have d7 := hy13.cell 7
          have d8 := hy13.cell 8
          have d9 := hy13.cell 9
          have d10 := hy13.cell 10
          have d11 := hy13.cell 11
          have d12 := hy13.cell 12
          simp only [List.getElem?_cons_zero, List.getElem?_cons_succ] at d0 d1 d2 d3 d4 d5 d6 d7 d8 d9 d10 d11 d12
          refine wp_region_z 99 (fun w' => w'.cell? ⟨yb, 0, none⟩ = some (.int .i64 v0) ∧ w'.cell? ⟨yb, 1, none⟩ = some (.int .i64 pn) ∧ w'.cell? ⟨yb, 2, none⟩ = some (.slice to tn tc) ∧ w'.cell? ⟨yb, 3, none⟩ = some (.int .i64 j2) ∧ w'.cell? ⟨yb, 4, none⟩ = some (.int .i64 p2) ∧ w'.cell? ⟨yb, 5, none⟩ = some (.int .i64 v1) ∧ w'.cell? ⟨yb, 6, none⟩ = some (.int .i64 v3) ∧ w'.cell? ⟨yb, 7, none⟩ = some (.int .i64 v4) ∧ w'.cell? ⟨yb, 8, none⟩ = some (.slice qo qn qc) ∧ w'.cell? ⟨yb, 9, none⟩ = some (.int .u32 v5) ∧ w'.cell? ⟨yb, 10, none⟩ = some (.int .u64 v6) ∧ w'.cell? ⟨yb, 11, none⟩ = some (.int .u32 v7) ∧ w'.cell? ⟨yb, 12, none⟩ = some (.int .i64 v8)) (by kernel_rfl) ?_
          refine wpAnyZ_takeN (i := 0) (v := ?v0z16) rfl (by kernel_rfl) (by kernel_rfl) (by kernel_rfl) (by kernel_rfl) (fun _ _ _ h => h) (Or.inl ⟨by rfl, ?hy0z16⟩) ⟨d0,d1,d2,d3,d4,d5,d6,d7,d8,d9,d10,d11,d12⟩ ?_
          case hy0z16 => intro w hSw; (try dsimp only at hSw); first | (go_simp; done) | (go_simp; with_reducible rfl)
          try simp only [Act.put, List.getElem_toArray, List.getElem_cons_zero, List.setIfInBounds_toArray, List.set_cons_zero, List.set_cons_succ]
          refine wpAnyZ_takeN (i := 1) (v := ?v1z16) rfl (by kernel_rfl) (by kernel_rfl) (by kernel_rfl) (by kernel_rfl) (fun _ _ _ h => h) (Or.inl ⟨by rfl, ?hy1z16⟩) ⟨d0,d1,d2,d3,d4,d5,d6,d7,d8,d9,d10,d11,d12⟩ ?_
          case hy1z16 => intro w hSw; (try dsimp only at hSw); first | (go_simp; done) | (go_simp; with_reducible rfl)
          try simp only [Act.put, List.getElem_toArray, List.getElem_cons_zero, List.getElem_cons_succ, List.setIfInBounds_toArray, List.set_cons_zero, List.set_cons_succ]
          refine wpAnyZ_takeN (i := 2) (v := ?v2z16) rfl (by kernel_rfl) (by kernel_rfl) (by kernel_rfl) (by kernel_rfl) (fun _ _ _ h => h) (Or.inl ⟨by rfl, ?hy2z16⟩) ⟨d0,d1,d2,d3,d4,d5,d6,d7,d8,d9,d10,d11,d12⟩ ?_
          case hy2z16 => intro w hSw; (try dsimp only at hSw); first | (go_simp; done) | (go_simp; with_reducible rfl)
          try simp only [Act.put, List.getElem_toArray, List.getElem_cons_zero, List.getElem_cons_succ, List.setIfInBounds_toArray, List.set_cons_zero, List.set_cons_succ]
          refine wpAnyZ_takeN (i := 3) (v := ?v3z16) rfl (by kernel_rfl) (by kernel_rfl) (by kernel_rfl) (by kernel_rfl) (fun _ _ _ h => h) (Or.inl ⟨by rfl, ?hy3z16⟩) ⟨d0,d1,d2,d3,d4,d5,d6,d7,d8,d9,d10,d11,d12⟩ ?_
          case hy3z16 => intro w hSw; (try dsimp only at hSw); first | (go_simp; done) | (go_simp; with_reducible rfl)
          try simp only [Act.put, List.getElem_toArray, List.getElem_cons_zero, List.getElem_cons_succ, List.setIfInBounds_toArray, List.set_cons_zero, List.set_cons_succ]
          refine wpAnyZ_takeN (i := 4) (v := ?v4z16) rfl (by kernel_rfl) (by kernel_rfl) (by kernel_rfl) (by kernel_rfl) (fun _ _ _ h => h) (Or.inl ⟨by rfl, ?hy4z16⟩) ⟨d0,d1,d2,d3,d4,d5,d6,d7,d8,d9,d10,d11,d12⟩ ?_
          case hy4z16 => intro w hSw; (try dsimp only at hSw); first | (go_simp; done) | (go_simp; with_reducible rfl)
          try simp only [Act.put, List.getElem_toArray, List.getElem_cons_zero, List.getElem_cons_succ, List.setIfInBounds_toArray, List.set_cons_zero, List.set_cons_succ]
          refine wpAnyZ_takeN (i := 5) (v := ?v5z16) rfl (by kernel_rfl) (by kernel_rfl) (by kernel_rfl) (by kernel_rfl) (fun _ _ _ h => h) (Or.inl ⟨by rfl, ?hy5z16⟩) ⟨d0,d1,d2,d3,d4,d5,d6,d7,d8,d9,d10,d11,d12⟩ ?_
          case hy5z16 => intro w hSw; (try dsimp only at hSw); first | (go_simp; done) | (go_simp; with_reducible rfl)
          try simp only [Act.put, List.getElem_toArray, List.getElem_cons_zero, List.getElem_cons_succ, List.setIfInBounds_toArray, List.set_cons_zero, List.set_cons_succ]
          refine wpAnyZ_takeN (i := 6) (v := ?v6z16) rfl (by kernel_rfl) (by kernel_rfl) (by kernel_rfl) (by kernel_rfl) (fun _ _ _ h => h) (Or.inl ⟨by rfl, ?hy6z16⟩) ⟨d0,d1,d2,d3,d4,d5,d6,d7,d8,d9,d10,d11,d12⟩ ?_
          case hy6z16 => intro w hSw; (try dsimp only at hSw); first | (go_simp; done) | (go_simp; with_reducible rfl)
          try simp only [Act.put, List.getElem_toArray, List.getElem_cons_zero, List.getElem_cons_succ, List.setIfInBounds_toArray, List.set_cons_zero, List.set_cons_succ]
          refine wpAnyZ_takeN (i := 8) (v := ?v8z16) rfl (by kernel_rfl) (by kernel_rfl) (by kernel_rfl) (by kernel_rfl) (fun _ _ _ h => h) (Or.inl ⟨by rfl, ?hy8z16⟩) ⟨d0,d1,d2,d3,d4,d5,d6,d7,d8,d9,d10,d11,d12⟩ ?_
          case hy8z16 => intro w hSw; (try dsimp only at hSw); first | (go_simp; done) | (go_simp; with_reducible rfl)
          try simp only [Act.put, List.getElem_toArray, List.getElem_cons_zero, List.getElem_cons_succ, List.setIfInBounds_toArray, List.set_cons_zero, List.set_cons_succ]
          refine wpAnyZ_one (i := 7) (by kernel_rfl) rfl (fun K hK => ?_)
          go_simp
          go_at_call 27
          refine (h13.x.pack).mono ?_; rintro e w14 ⟨rfl, rfl⟩
          refine hK.out _ _ (fun _ => ⟨d0,d1,d2,d3,d4,d5,d6,d7,d8,d9,d10,d11,d12⟩) ?_
          clear hK K
          try simp only [Act.put, List.setIfInBounds_toArray, List.set_cons_zero, List.set_cons_succ]
          refine wpAnyZ_one (i := 9) (by kernel_rfl) rfl (fun K hK => ?_)
          go_simp
          go_at_call 28
          refine (packR_ref _ h13.rr).mono ?_; rintro e w15 ⟨rfl, hk15⟩
          have h15 := h13.kept hk15
          have hy15 := h15.y
          have e0 := hy15.cell 0
          have e1 := hy15.cell 1
          have e2 := hy15.cell 2
          have e3 := hy15.cell 3
          have e4 := hy15.cell 4
          have e5 := hy15.cell 5
          have e6 := hy15.cell 6
          have e7 := hy15.cell 7
          have e8 := hy15.cell 8
          have e9 := hy15.cell 9
          have e10 := hy15.cell 10
          have e11 := hy15.cell 11
          have e12 := hy15.cell 12
          simp only [List.getElem?_cons_zero, List.getElem?_cons_succ] at e0 e1 e2 e3 e4 e5 e6 e7 e8 e9 e10 e11 e12
          refine hK.out _ _ (fun _ => ⟨e0,e1,e2,e3,e4,e5,e6,e7,e8,e9,e10,e11,e12⟩) ?_
          clear hK K
          try simp only [Act.put, List.setIfInBounds_toArray, List.set_cons_zero, List.set_cons_succ]
          refine wpAnyZ_takeN (i := 10) (v := ?v10z17) rfl (by kernel_rfl) (by kernel_rfl) (by kernel_rfl) (by kernel_rfl) (fun _ _ _ h => h) (Or.inl ⟨by rfl, ?hy10z17⟩) ⟨e0,e1,e2,e3,e4,e5,e6,e7,e8,e9,e10,e11,e12⟩ ?_
          case hy10z17 => intro w hSw; (try dsimp only at hSw); first | (go_simp; done) | (go_simp; with_reducible rfl)
          try simp only [Act.put, List.getElem_toArray, List.getElem_cons_zero, List.getElem_cons_succ, List.setIfInBounds_toArray, List.set_cons_zero, List.set_cons_succ]
          refine wpAnyZ_takeN (i := 11) (v := ?v11z17) rfl (by kernel_rfl) (by kernel_rfl) (by kernel_rfl) (by kernel_rfl) (fun _ _ _ h => h) (Or.inl ⟨by rfl, ?hy11z17⟩) ⟨e0,e1,e2,e3,e4,e5,e6,e7,e8,e9,e10,e11,e12⟩ ?_
          case hy11z17 => intro w hSw; (try dsimp only at hSw); first | (go_simp; done) | (go_simp; with_reducible rfl)
          try simp only [Act.put, List.getElem_toArray, List.getElem_cons_zero, List.getElem_cons_succ, List.setIfInBounds_toArray, List.set_cons_zero, List.set_cons_succ]
          refine wpAnyZ_takeN (i := 12) (v := ?v12z17) rfl (by kernel_rfl) (by kernel_rfl) (by kernel_rfl) (by kernel_rfl) (fun _ _ _ h => h) (Or.inl ⟨by rfl, ?hy12z17⟩) ⟨e0,e1,e2,e3,e4,e5,e6,e7,e8,e9,e10,e11,e12⟩ ?_
          case hy12z17 => intro w hSw; (try dsimp only at hSw); first | (go_simp; done) | (go_simp; with_reducible rfl)
          try simp only [Act.put, List.getElem_toArray, List.getElem_cons_zero, List.getElem_cons_succ, List.setIfInBounds_toArray, List.set_cons_zero, List.set_cons_succ]
          refine wpAnyZ_takeN (i := 13) (v := ?v13z17) rfl (by kernel_rfl) (by kernel_rfl) (by kernel_rfl) (by kernel_rfl) (fun _ _ _ h => h) (Or.inl ⟨by rfl, ?hy13z17⟩) ⟨e0,e1,e2,e3,e4,e5,e6,e7,e8,e9,e10,e11,e12⟩ ?_
          case hy13z17 => intro w hSw; (try dsimp only at hSw); first | (go_simp; done) | (go_simp; with_reducible rfl)
          try simp only [Act.put, List.getElem_toArray, List.getElem_cons_zero, List.getElem_cons_succ, List.setIfInBounds_toArray, List.set_cons_zero, List.set_cons_succ]
          refine wpAnyZ_takeN (i := 15) (v := ?v15z17) rfl (by kernel_rfl) (by kernel_rfl) (by kernel_rfl) (by kernel_rfl) (fun _ _ _ h => h) (Or.inl ⟨by rfl, ?hy15z17⟩) ⟨e0,e1,e2,e3,e4,e5,e6,e7,e8,e9,e10,e11,e12⟩ ?_
          case hy15z17 => intro w hSw; (try dsimp only at hSw); first | (go_simp; done) | (go_simp; with_reducible rfl)
          try simp only [Act.put, List.getElem_toArray, List.getElem_cons_zero, List.getElem_cons_succ, List.setIfInBounds_toArray, List.set_cons_zero, List.set_cons_succ]
          refine wpAnyZ_one (i := 14) (by kernel_rfl) rfl (fun K hK => ?_)
          go_simp
          go_at_call 15
          refine (mAll_any _ h15.st).mono ?_; rintro e w16 ⟨rfl, hb16, hk16⟩
          have hr16 : MemV w16 (.slice (some ⟨w15.heap.size, 0, none⟩) mem2.length mem2.length) mem2 := by
            have := hb16.row (by have := h15.st.le; simp; unfold maxLen; omega)
            simpa using this
          have h16 := h15.kept hk16
          have hy16 := h16.y
          have g0 := hy16.cell 0
          have g1 := hy16.cell 1
          have g2 := hy16.cell 2
          have g3 := hy16.cell 3
          have g4 := hy16.cell 4
          have g5 := hy16.cell 5
          have g6 := hy16.cell 6
          have g7 := hy16.cell 7
          have g8 := hy16.cell 8
          have g9 := hy16.cell 9
          have g10 := hy16.cell 10
          have g11 := hy16.cell 11
          have g12 := hy16.cell 12
          simp only [List.getElem?_cons_zero, List.getElem?_cons_succ] at g0 g1 g2 g3 g4 g5 g6 g7 g8 g9 g10 g11 g12
          refine hK.out _ _ (fun _ => ⟨g0,g1,g2,g3,g4,g5,g6,g7,g8,g9,g10,g11,g12⟩) ?_
          clear hK K
          try simp only [Act.put, List.setIfInBounds_toArray, List.set_cons_zero, List.set_cons_succ]
          refine wpAnyZ_one (i := 16) (by kernel_rfl) rfl (fun K hK => ?_)
          go_simp
          go_at_call 13
          refine (same_any _ hr16 h16.m).mono ?_; rintro e w17 ⟨rfl, hk17⟩
          rw [decide_eq_true (show mem2 = mem2 from rfl)]
          have h17 := h16.kept hk17
          have hy17 := h17.y
          have o0 := hy17.cell 0
          have o1 := hy17.cell 1
          have o2 := hy17.cell 2
          have o3 := hy17.cell 3
          have o4 := hy17.cell 4
          have o5 := hy17.cell 5
          have o6 := hy17.cell 6
          have o7 := hy17.cell 7
          have o8 := hy17.cell 8
          have o9 := hy17.cell 9
          have o10 := hy17.cell 10
          have o11 := hy17.cell 11
          have o12 := hy17.cell 12
          simp only [List.getElem?_cons_zero, List.getElem?_cons_succ] at o0 o1 o2 o3 o4 o5 o6 o7 o8 o9 o10 o11 o12
          refine hK.out _ _ (fun _ => ⟨o0,o1,o2,o3,o4,o5,o6,o7,o8,o9,o10,o11,o12⟩) ?_
          clear hK K
          try simp only [Act.put, List.setIfInBounds_toArray, List.set_cons_zero, List.set_cons_succ]
          refine wpAnyZ_takeN (i := 17) (v := ?v17z18) rfl (by kernel_rfl) (by kernel_rfl) (by kernel_rfl) (by kernel_rfl) (fun _ _ _ h => h) (Or.inl ⟨by rfl, ?hy17z18⟩) ⟨o0,o1,o2,o3,o4,o5,o6,o7,o8,o9,o10,o11,o12⟩ ?_
          case hy17z18 => intro w hSw; (try dsimp only at hSw); first | (go_simp; done) | (go_simp; with_reducible rfl)
          try simp only [Act.put, List.getElem_toArray, List.getElem_cons_zero, List.getElem_cons_succ, List.setIfInBounds_toArray, List.set_cons_zero, List.set_cons_succ]
          refine wpAnyZ_takeN (i := 18) (v := ?v18z18) rfl (by kernel_rfl) (by kernel_rfl) (by kernel_rfl) (by kernel_rfl) (fun _ _ _ h => h) (Or.inl ⟨by rfl, ?hy18z18⟩) ⟨o0,o1,o2,o3,o4,o5,o6,o7,o8,o9,o10,o11,o12⟩ ?_
          case hy18z18 => intro w hSw; (try dsimp only at hSw); first | (go_simp; done) | (go_simp; with_reducible rfl)
          try simp only [Act.put, List.getElem_toArray, List.getElem_cons_zero, List.getElem_cons_succ, List.setIfInBounds_toArray, List.set_cons_zero, List.set_cons_succ]
          refine wpAnyZ_takeN (i := 19) (v := ?v19z18) rfl (by kernel_rfl) (by kernel_rfl) (by kernel_rfl) (by kernel_rfl) (fun _ _ _ h => h) (Or.inl ⟨by rfl, ?hy19z18⟩) ⟨o0,o1,o2,o3,o4,o5,o6,o7,o8,o9,o10,o11,o12⟩ ?_
          case hy19z18 => intro w hSw; (try dsimp only at hSw); first | (go_simp; done) | (go_simp; with_reducible rfl)
          try simp only [Act.put, List.getElem_toArray, List.getElem_cons_zero, List.getElem_cons_succ, List.setIfInBounds_toArray, List.set_cons_zero, List.set_cons_succ]
          refine wpAnyZ_takeN (i := 20) (v := ?v20z18) rfl (by kernel_rfl) (by kernel_rfl) (by kernel_rfl) (by kernel_rfl) (fun _ _ _ h => h) (Or.inl ⟨by rfl, ?hy20z18⟩) ⟨o0,o1,o2,o3,o4,o5,o6,o7,o8,o9,o10,o11,o12⟩ ?_
          case hy20z18 => intro w hSw; (try dsimp only at hSw); first | (go_simp; done) | (go_simp; with_reducible rfl)
          try simp only [Act.put, List.getElem_toArray, List.getElem_cons_zero, List.getElem_cons_succ, List.setIfInBounds_toArray, List.set_cons_zero, List.set_cons_succ]
          refine wpAnyZ_takeN (i := 22) (v := ?v22z18) rfl (by kernel_rfl) (by kernel_rfl) (by kernel_rfl) (by kernel_rfl) (fun _ _ _ h => h) (Or.inl ⟨by rfl, ?hy22z18⟩) ⟨o0,o1,o2,o3,o4,o5,o6,o7,o8,o9,o10,o11,o12⟩ ?_
          case hy22z18 => intro w hSw; (try dsimp only at hSw); first | (go_simp; done) | (go_simp; with_reducible rfl)
          try simp only [Act.put, List.getElem_toArray, List.getElem_cons_zero, List.getElem_cons_succ, List.setIfInBounds_toArray, List.set_cons_zero, List.set_cons_succ]
          refine wpAnyZ_takeN (i := 23) (v := ?v23z18) rfl (by kernel_rfl) (by kernel_rfl) (by kernel_rfl) (by kernel_rfl) (fun _ _ _ h => h) (Or.inl ⟨by rfl, ?hy23z18⟩) ⟨o0,o1,o2,o3,o4,o5,o6,o7,o8,o9,o10,o11,o12⟩ ?_
          case hy23z18 => intro w hSw; (try dsimp only at hSw); first | (go_simp; done) | (go_simp; with_reducible rfl)
          try simp only [Act.put, List.getElem_toArray, List.getElem_cons_zero, List.getElem_cons_succ, List.setIfInBounds_toArray, List.set_cons_zero, List.set_cons_succ]
          refine wpAnyZ_takeN (i := 25) (v := ?v25z18) rfl (by kernel_rfl) (by kernel_rfl) (by kernel_rfl) (by kernel_rfl) (fun _ _ _ h => h) (Or.inl ⟨by rfl, ?hy25z18⟩) ⟨o0,o1,o2,o3,o4,o5,o6,o7,o8,o9,o10,o11,o12⟩ ?_
          case hy25z18 => intro w hSw; (try dsimp only at hSw); first | (go_simp; done) | (go_simp; with_reducible rfl)
          try simp only [Act.put, List.getElem_toArray, List.getElem_cons_zero, List.getElem_cons_succ, List.setIfInBounds_toArray, List.set_cons_zero, List.set_cons_succ]
          refine wpAnyZ_one (i := 21) (by kernel_rfl) rfl (fun K hK => ?_)
          go_simp
          go_at_call 24
          refine (mCount_any _ h17.st).mono ?_; rintro e w18 ⟨rfl, rfl⟩
          refine hK.out _ _ (fun _ => ⟨o0,o1,o2,o3,o4,o5,o6,o7,o8,o9,o10,o11,o12⟩) ?_
          clear hK K
          try simp only [Act.put, List.setIfInBounds_toArray, List.set_cons_zero, List.set_cons_succ]
          refine wpAnyZ_takeN (i := 24) (v := ?v24z19) rfl (by kernel_rfl) (by kernel_rfl) (by kernel_rfl) (by kernel_rfl) (fun _ _ _ h => h) (Or.inl ⟨by rfl, ?hy24z19⟩) ⟨o0,o1,o2,o3,o4,o5,o6,o7,o8,o9,o10,o11,o12⟩ ?_
          case hy24z19 => intro w hSw; (try dsimp only at hSw); first | (go_simp; done) | (go_simp; with_reducible rfl)
          try simp only [Act.put, List.getElem_toArray, List.getElem_cons_zero, List.getElem_cons_succ, List.setIfInBounds_toArray, List.set_cons_zero, List.set_cons_succ]
          refine wpAnyZ_takeN (i := 26) (v := ?v26z19) rfl (by kernel_rfl) (by kernel_rfl) (by kernel_rfl) (by kernel_rfl) (fun _ _ _ h => h) (Or.inl ⟨by rfl, ?hy26z19⟩) ⟨o0,o1,o2,o3,o4,o5,o6,o7,o8,o9,o10,o11,o12⟩ ?_
          case hy26z19 => intro w hSw; (try dsimp only at hSw); first | (go_simp; done) | (go_simp; with_reducible rfl)
          try simp only [Act.put, List.getElem_toArray, List.getElem_cons_zero, List.getElem_cons_succ, List.setIfInBounds_toArray, List.set_cons_zero, List.set_cons_succ]
          refine wpAnyZ_takeN (i := 27) (v := ?v27z19) rfl (by kernel_rfl) (by kernel_rfl) (by kernel_rfl) (by kernel_rfl) (fun _ _ _ h => h) (Or.inl ⟨by rfl, ?hy27z19⟩) ⟨o0,o1,o2,o3,o4,o5,o6,o7,o8,o9,o10,o11,o12⟩ ?_
          case hy27z19 => intro w hSw; (try dsimp only at hSw); first | (go_simp; done) | (go_simp; with_reducible rfl)
          try simp only [Act.put, List.getElem_toArray, List.getElem_cons_zero, List.getElem_cons_succ, List.setIfInBounds_toArray, List.set_cons_zero, List.set_cons_succ]
          refine wpAnyZ_done (by kernel_rfl) ?_ _
          clear d0 d1 d2 d3 d4 d5 d6 d7 d8 d9 d10 d11 d12 e0 e1 e2 e3 e4 e5 e6 e7 e8 e9 e10 e11 e12 g0 g1 g2 g3 g4 g5 g6 g7 g8 g9 g10 g11 g12 o0 o1 o2 o3 o4 o5 o6 o7 o8 o9 o10 o11 o12 hy13 hy15 hy16 hy17 hr16 hb16 h12 h13 h15 h16 hz2 hwas hk15 hk16 hk17
          obtain ⟨lo, lc, hlv⟩ := h17.m.form
          obtain ⟨m2, hm2⟩ : ∃ m2, m2 = (mem2.map (Value.int .u64)).length := ⟨_, rfl⟩
          rw [← hm2] at hlv
          subst hlv
          have HM2 : Hid (m2 = mem2.length) := by rw [hm2]; simp [Hid]
          clear hm2
          have hle2 := h17.st.le
          have hpo2 := h17.pos
          by_cases hlp : (i : Int) < pl
          · have hlt' : i < ps.length := by have := HPL.out; omega
            have hm2le : (m2 : Int) ≤ 20000 := by have := HM2.out; omega
            have hm20 : (0 : Int) ≤ m2 := by omega
            obtain ⟨sb, so, cap', e, _, hc0, hc1⟩ := (HK.out w17 (hK4.trans' h17.k)).at hlt'
            have hux := (HK.out w (Below.refl _ _)).1 ps[i] (List.getElem_mem _)
            have hsb : sb < w.heap.size := by
              obtain ⟨sb', so', _, e', h0, _⟩ := (HK.out w (Below.refl _ _)).at hlt'
              simp only [Value.slice.injEq] at e e'
              have := e.1.symm.trans e'.1
              simp only [Option.some.injEq, Addr.mk.injEq] at this
              rw [this.1]; exact h0
            generalize ps[i] = q at *
            simp only [Value.slice.injEq] at e
            obtain ⟨rfl, hplx, rfl⟩ := e
            clear hplx
            obtain ⟨a, x⟩ := q
            simp only at hc0 hc1 hux
            obtain ⟨hax, hux⟩ := hux
            have hlen2 : mem2.length ≤ 20000 := hle2
            have HB : Hid (∀ W, Chg (MemB bs bl) w17 W → W.cell? ⟨sb, so + i * 2 + 1, none⟩ = some (.int .u64 x)) := fun W hc => by
              have hb7 : Below w.heap.size w17 W := hc.toBelow (Nat.le_trans hW4 h17.k.size) (fun q hq e => by rcases e with e | e <;> omega)
              rw [Below.cell hb7 hsb]; exact hc1
            by_cases ha5 : a > 5
            · have hwa : IntKind.i64.wrap ((m2 : Int) - a) = (m2 : Int) - a := IntWalk.i64_in _ (by omega)
              go_wp2_with fail
              refine (put_any ((m2 : Int) - a) x _ h17.st hux).mono ?_; rintro e w19 ⟨rfl, hs19, hc19⟩
              have h19 := h17.put hs19 hc19
              have hc1' := HB.out w19 hc19
              clear hs19 hc19 h17 hc0 hc1
              go_wp2_with fail
              refine (putL_ref ((m2 : Int) - a) x w19 h19.m hlen2).mono ?_; rintro e w20 ⟨l3, rfl, hm20, hk20, hl20⟩
              have h20 := h19.putL hk20 hm20 hl20 h19.st.pos
              clear h19 hm20 hk20 hl20 hc1'
              go_wp2_with fail
              go_roundw
              case rel => exact ⟨i + 1, _, _, s2, _, _, by omega, by go_num, h20⟩
              case measure => simp [intOf]; omega
            · have hna : ¬ 5 < a := ha5
              go_wp2_with fail
              refine (put_any a x _ h17.st hux).mono ?_; rintro e w19 ⟨rfl, hs19, hc19⟩
              have h19 := h17.put hs19 hc19
              have hc1' := HB.out w19 hc19
              clear hs19 hc19 h17 hc0 hc1
              go_wp2_with fail
              refine (putL_ref a x w19 h19.m hlen2).mono ?_; rintro e w20 ⟨l3, rfl, hm20, hk20, hl20⟩
              have h20 := h19.putL hk20 hm20 hl20 h19.st.pos
              clear h19 hm20 hk20 hl20 hc1'
              go_wp2_with fail
              go_roundw
              case rel => exact ⟨i + 1, _, _, s2, _, _, by omega, by go_num, h20⟩
              case measure => simp [intOf]; omega
          · go_wp2_with fail
            go_roundw
            case rel => exact ⟨i + 1, _, _, s2, _, _, by omega, by go_num, h17⟩
            case measure => simp [intOf]; omega
        · obtain rfl : i = pl + 16 := by omega
          have hkw := hK4.trans' h.k
          clear h
          go_wp2_with fail
          go_ret
          exact ⟨rfl, hkw⟩

end Go.Proofs.Ytcejleaedlflaaa
