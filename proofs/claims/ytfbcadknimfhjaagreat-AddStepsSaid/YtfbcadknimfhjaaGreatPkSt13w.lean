/- Each step of a task that is put somewhere is the document's: walked. -/
import Derived.Test.YtfbcadknimfhjaaGreatPkSt13
import Derived.Test.YtfbcadknimfhjaaGreatPkRef13e
import Derived.Test.YtfbcadknimfhjaaGreatPkAw13
import Derived.Test.YtfbcadknimfhjaaGreatPkV
import Derived.Test.YtfbcadknimfhjaaGreatPkU
import Derived.Test.YtfbcadknimfhjaaGreatPkQ
import Derived.Deep.CutRange
import Derived.Deep.QuietTactic
import Derived.BigQuiet
namespace Go.Proofs.YtfbcadknimfhjaaGreat
open Go.RowKit

theorem pcA_zero (q : APc) : (pcA q == 0) = q.fin := by cases q <;> rfl

theorem cnt_wasA (n : Int) (q : APc) : (cntIf q.fin n == IntKind.i64.wrap (n + 1)) = decide (pcA q > 0) := by
  have hne : ¬ n = IntKind.i64.wrap (n + 1) := by
    rw [IntKind.wrap_i64]; omega
  cases q
  · simp only [APc.fin, cntIf, pcA]
    simpa using hne
  all_goals
    simp only [APc.fin, cntIf, pcA]
    rw [IntKind.wrap_i64]
    simp [cnt, wrap64]

theorem AmAt.poolOk {w : World} {a bm bs bl : Nat} {c : Cfg} {i : Int} {s : AM} {O : Nat → Prop} (h : AmAt w a bm bs bl c i s O) (hp : s.pc = .pool) : PmOk s.put ∧ s.put.pc.fin = false := by
  obtain ⟨_, _, _, _, h2⟩ := h.ex
  exact ⟨(h2 hp).2.1, (h2 hp).1⟩

theorem pEnd_small {c : Cfg} (hg : Good c) (i : Int) : -1 ≤ pEnd c i 0 ∧ pEnd c i 0 ≤ 14000 := by
  have hd := dqs_bound hg
  have h1 : 1 ≤ c.mks ∧ c.mks ≤ 4 := by unfold Good at hg; omega
  have h2 : 2 ≤ c.dq ∧ c.dq ≤ 8 := by unfold Good at hg; omega
  unfold pEnd
  split
  · next h =>
    have := mul_small (x := i) (y := 2 + c.dq) (X := 4) (Y := 10) (by omega) (by omega) (by omega) (by omega)
    omega
  · omega

theorem newAM_pool (c : Cfg) (i x : Int) : (newAM c i x).pc ≠ .pool := by unfold newAM; simp only []; split <;> simp

theorem R13.any {w w' : World} {v : Value} {c : Cfg} {i : Int} {tv xv : Value} {s : AM} (h : R13 w v c i tv xv s) (hp : s.pc ≠ .pool) : R13 w' v c i tv xv s := by
  obtain ⟨⟨tk, k0, k1, k2, k3, k4, k5, k6, k7, k8, k10, k9, p0, p1, p3, p4, p5, p6, p7, p9, p10, p11, p12, h1, h2, h3⟩, h4, h5, h6⟩ := h
  exact ⟨⟨tk, k0, k1, k2, k3, k4, k5, k6, k7, k8, k10, k9, p0, p1, p3, p4, p5, p6, p7, p9, p10, p11, p12, h1, h2, fun e => absurd e hp⟩, h4, h5, h6⟩

set_option maxRecDepth 8000 in
set_option maxHeartbeats 9600000 in
theorem steps13_any (c : Cfg) (i x bf : Int) (vk : Value) (ps : List (Int × Int)) (w : World) (hi : -9223372036854775808 ≤ i ∧ i ≤ 9223372036854775807) (hx : U x) (hbf : 0 ≤ bf ∧ bf ≤ 255) (hk : Pokes w vk ps) :
    Calls Tryz.prog 3 #[.agg #[.int .i64 c.c0, .int .i64 c.c1, .int .i64 c.c2, .int .i64 c.c3, .int .i64 c.c4, .int .i64 c.mks, .int .i64 c.mus, .int .i64 c.dq, .int .i64 c.ch, .int .i64 c.bu, .int .i64 c.ro, .int .i64 c.sw], .int .i64 i, .int .u64 x, .int .u8 bf, vk] w fun e w' => e = .returned (.bool true) ∧ Kept w w' := by
  obtain ⟨hi0, hi1⟩ := hi
  obtain ⟨hbf0, hbf1⟩ := hbf
  have HX : Hid (U x) := hx
  clear hx
  obtain ⟨ak, ck, hvk⟩ := hk.form
  subst hvk
  have HK : Hid (∀ W, Kept w W → Pokes W (.slice ak ps.length ck) ps) := fun W k => hk.kept k
  clear hk
  obtain ⟨pl, hpl⟩ : ∃ pl, pl = ps.length := ⟨_, rfl⟩
  have HPL : Hid (pl = ps.length) := hpl
  rw [← hpl] at HK ⊢
  clear hpl
  obtain ⟨bn, hbn⟩ : ∃ bn : Nat, bf % 10 = bn := ⟨(bf % 10).toNat, by omega⟩
  have hbn9 : bn ≤ 9 := by omega
  have hb := Blk.new w 24 [.int .i64 c.c0, .int .i64 c.c1, .int .i64 c.c2, .int .i64 c.c3, .int .i64 c.c4, .int .i64 c.mks, .int .i64 c.mus, .int .i64 c.dq, .int .i64 c.ch, .int .i64 c.bu, .int .i64 c.ro, .int .i64 c.sw]
  have hk0 : Kept w (w.alloc (.cells ([.int .i64 c.c0, .int .i64 c.c1, .int .i64 c.c2, .int .i64 c.c3, .int .i64 c.c4, .int .i64 c.mks, .int .i64 c.mus, .int .i64 c.dq, .int .i64 c.ch, .int .i64 c.bu, .int .i64 c.ro, .int .i64 c.sw] : List Value).toArray 24)) := (Below.refl _ _).alloc (Nat.le_refl _) _
  go_enter Tryz.func3, Tryz.ntmps3
  go_wp2_with fail
  generalize w.alloc (.cells ([.int .i64 c.c0, .int .i64 c.c1, .int .i64 c.c2, .int .i64 c.c3, .int .i64 c.c4, .int .i64 c.mks, .int .i64 c.mus, .int .i64 c.dq, .int .i64 c.ch, .int .i64 c.bu, .int .i64 c.ro, .int .i64 c.sw] : List Value).toArray 24) = w0 at *
  refine (awake13_any w0).mono ?_; rintro e w1 ⟨rfl, hk1⟩
  have hb1 := hk1.blk hb
  have hK1 : Kept w w1 := hk0.trans' hk1
  clear hb hk0 hk1 
  have c0 := hb1.cell 0
  have c1 := hb1.cell 1
  have c2 := hb1.cell 2
  have c3 := hb1.cell 3
  have c4 := hb1.cell 4
  have c5 := hb1.cell 5
  have c6 := hb1.cell 6
  have c7 := hb1.cell 7
  have c8 := hb1.cell 8
  have c9 := hb1.cell 9
  have c10 := hb1.cell 10
  have c11 := hb1.cell 11
  simp only [List.getElem?_cons_zero, List.getElem?_cons_succ] at c0 c1 c2 c3 c4 c5 c6 c7 c8 c9 c10 c11
  go_wp2_with fail
  refine (small13_any c w1).mono ?_; rintro e w2 ⟨⟨v, rfl, hv⟩, hk2⟩
  have HV : Hid (v = true → Good c ∧ Small c) := hv
  have hb2 := hk2.blk hb1
  have hK2 : Kept w w2 := hK1.trans' hk2
  clear hv hk2 hb1 hK1 c0 c1 c2 c3 c4 c5 c6 c7 c8 c9 c10 c11 
  cases v
  · go_wp2_with fail
    go_ret
    exact ⟨rfl, hK2⟩
  have hgs := HV.out rfl
  have Hg : Hid (Good c ∧ Small c) := hgs
  clear HV hgs
  by_cases h22 : (pl : Int) > 20
  · go_wp2_with fail
    go_ret
    exact ⟨rfl, hK2⟩
  have hpl20 : pl ≤ 20 := by omega
  clear h22
  have q0 := hb2.cell 0
  have q1 := hb2.cell 1
  have q2 := hb2.cell 2
  have q3 := hb2.cell 3
  have q4 := hb2.cell 4
  have q5 := hb2.cell 5
  have q6 := hb2.cell 6
  have q7 := hb2.cell 7
  have q8 := hb2.cell 8
  have q9 := hb2.cell 9
  have q10 := hb2.cell 10
  have q11 := hb2.cell 11
  simp only [List.getElem?_cons_zero, List.getElem?_cons_succ] at q0 q1 q2 q3 q4 q5 q6 q7 q8 q9 q10 q11
  go_wp2_with fail
  refine (new_good c w2 Hg.out.1).mono ?_; rintro e w3 ⟨bm, rfl, hm3, hk3⟩
  have hK3 : Kept w w3 := hK2.trans' hk3
  have hb3 := hk3.blk hb2
  clear q0 q1 q2 q3 q4 q5 q6 q7 q8 q9 q10 q11 hb2 hk3 hK2
  have q0 := hb3.cell 0
  have q1 := hb3.cell 1
  have q2 := hb3.cell 2
  have q3 := hb3.cell 3
  have q4 := hb3.cell 4
  have q5 := hb3.cell 5
  have q6 := hb3.cell 6
  have q7 := hb3.cell 7
  have q8 := hb3.cell 8
  have q9 := hb3.cell 9
  have q10 := hb3.cell 10
  have q11 := hb3.cell 11
  simp only [List.getElem?_cons_zero, List.getElem?_cons_succ] at q0 q1 q2 q3 q4 q5 q6 q7 q8 q9 q10 q11
  go_wp2_with fail
  refine (model13_any c w3).mono ?_; rintro e wa ⟨rfl, hka⟩
  clear q0 q1 q2 q3 q4 q5 q6 q7 q8 q9 q10 q11 
  go_wp2_with fail
  refine (map_ref c wa Hg.out.1).mono ?_; rintro e wb ⟨vm, rfl, hvm, hkb⟩
  obtain ⟨va, rfl, hTT⟩ := hvm
  obtain ⟨aa, acap, rfl, _⟩ := hTT.ex
  have HV : Hid (∀ W, Kept wb W → MapV W c (.agg #[.slice aa (allT c).length acap, .int .i64 (manyI c)])) := fun W k => ⟨_, rfl, hTT.kept k⟩
  clear hTT
  generalize (allT c).length = ln at *
  go_wp2_with fail
  have hA4 := Blk.new wb 35 [.slice aa ln acap, .int .i64 (manyI c)]
  have hk4 : Kept wb (wb.alloc (.cells ([.slice aa ln acap, .int .i64 (manyI c)] : List Value).toArray 35)) := (Below.refl _ _).alloc (Nat.le_refl _) _
  generalize wb.alloc (.cells ([.slice aa ln acap, .int .i64 (manyI c)] : List Value).toArray 35) = w4 at *
  have z3 : w3.heap.size ≤ w4.heap.size := Nat.le_trans (Nat.le_trans hka.size hkb.size) hk4.size
  have hk34 : Kept w3 w4 := (hka.trans' hkb).trans' hk4
  have hm4 : MapAt w4 w4.heap.size bm c := (hm3.kept hk34 (Nat.le_refl _)).up z3
  have hK4 : Kept w w4 := hK3.trans' hk34
  obtain ⟨ab, hab⟩ : ∃ ab, ab = wb.heap.size := ⟨_, rfl⟩
  rw [← hab] at hA4 ⊢
  clear hab
  obtain ⟨cb, hcb⟩ : ∃ cb, cb = w.heap.size := ⟨_, rfl⟩
  rw [← hcb] at hb3 ⊢
  clear hcb
  have HA : Hid (∀ W, Kept w4 W → MapV W c (.agg #[.slice aa ln acap, .int .i64 (manyI c)]) ∧ Blk W ab 35 [.slice aa ln acap, .int .i64 (manyI c)]) := fun W k => ⟨HV.out _ (hk4.trans' k), k.blk hA4⟩
  have HCF : Hid (∀ W, Kept w4 W → Blk W cb 24 [.int .i64 c.c0, .int .i64 c.c1, .int .i64 c.c2, .int .i64 c.c3, .int .i64 c.c4, .int .i64 c.mks, .int .i64 c.mus, .int .i64 c.dq, .int .i64 c.ch, .int .i64 c.bu, .int .i64 c.ro, .int .i64 c.sw]) := fun W k => k.blk (hk34.blk hb3)
  have hW4 : w.heap.size ≤ w4.heap.size := hK4.size
  have hA0 : ab < w4.heap.size := hA4.lt
  have hC0 : cb < w4.heap.size := (hk34.blk hb3).lt
  clear HV hb3 hka hkb hm3 hA4 hk4 hK3 z3 hk34
  refine (first_any w4 hm4 Hg.out.1 (Nat.le_refl _)).mono ?_; rintro e wc ⟨v4, rfl, hr4, hkc⟩
  obtain ⟨fl0, fl1, fall⟩ := first_facts Hg.out.1
  go_wp2_with fail
  refine (new_any wc hr4 fl0 fl1 fall).mono ?_; rintro e w5 ⟨bs, bl, rfl, hs5, hbs5, hbl5, hkd⟩
  have hk5 : Kept w4 w5 := hkc.trans' hkd
  have hBs : w4.heap.size ≤ bs := Nat.le_trans hkc.size hbs5
  have hBl : w4.heap.size ≤ bl := Nat.le_trans hkc.size hbl5
  clear hr4 hkc hkd hbs5 hbl5 fl0 fl1 fall
  go_wp2_with fail
  go_loopw [17] (fun kv wr => ∃ (k : Nat) (mem : List Int) (n' : Int), k ≤ bn ∧ kv = .int .i64 k ∧ StoreAt wr bs bl mem n' ∧ Kept w4 wr) (fun kv _ => bn - (intOf kv).toNat)
  case atStart => exact ⟨0, firstL c, _, by omega, rfl, hs5, hk5⟩
  case round =>
    clear hs5 hk5
    obtain ⟨k, mem, n', hkn, rfl, hs', hbw⟩ := hrel
    have zr := hbw.size
    have hm' : MapAt wr w4.heap.size bm c := hm4.below hbw (Nat.le_refl _)
    by_cases hlt : (k : Int) < bn
    · have hk0 : (0 : Int) ≤ k := by omega
      have wk : IntKind.u64.wrap (k : Int) = k := by rw [IntKind.wrap_u64]; omega
      go_wp2_with fail
      refine (addNew_any (bs := bs) (bl := bl) i k wr hm' zr Hg.out.1 (by unfold U; omega) hs'.lt.1 hs'.lt.2).mono ?_; rintro e w6 ⟨b, rfl, ha6, hk6⟩
      have hs6 := hs'.kept hk6
      have hk46 : Kept w4 w6 := hbw.trans' hk6
      have hm6 : MapAt w6 w4.heap.size bm c := hm4.below hk46 (Nat.le_refl _)
      clear wk hs' hm'
      go_wp2_with fail
      refine (whole13_any w6 Hg.out.1 ha6 hs6 hm6 hk46.size (NewB.ge zr) hBs hBl).mono ?_; rintro e w7 ⟨K, rfl, _, _, _, _, _, ⟨n2, hs7⟩, hc7⟩
      have hk47 : Kept w4 w7 := hk46.trans (hc7.ownBelow (B := w4.heap.size) hk46.size (NewB.ge zr) hBs hBl)
      clear ha6 hk6 hs6 hm6 hc7
      go_wp2_with fail
      go_roundw
      case rel => exact ⟨k + 1, _, n2, by omega, by go_num, hs7, hk47⟩
      case measure => simp [intOf]; omega
    · obtain rfl : k = bn := by omega
      generalize wr = w6 at *
      clear hlt hkn
      have hlp := hs'.pos
      have hle := hs'.le
      go_wp2_with fail
      refine (mAll_any _ hs').mono ?_; rintro e w7 ⟨rfl, hb7, hk7⟩
      have hr7 : MemV w7 (.slice (some ⟨w6.heap.size, 0, none⟩) mem.length mem.length) mem := by
        have := hb7.row (by simp; unfold maxLen; omega)
        simpa using this
      have hs7 := hs'.kept hk7
      have hb7' : Kept w4 w7 := hbw.trans' hk7
      have z6 := hb7.lt
      have hm7 : MapAt w7 w4.heap.size bm c := hm4.below hb7' (Nat.le_refl _)
      have HSZ : Hid (w4.heap.size ≤ w6.heap.size ∧ w6.heap.size < w7.heap.size ∧ bs < w6.heap.size ∧ bl < w6.heap.size ∧ 0 < mem.length) := ⟨zr, z6, hs'.lt.1, hs'.lt.2, hlp⟩
      clear hs' hbw hb7 hm' hk7 zr z6 hlp hle
      obtain ⟨lb, hlb⟩ : ∃ lb, lb = w6.heap.size := ⟨_, rfl⟩
      obtain ⟨ml, hml⟩ : ∃ ml, ml = mem.length := ⟨_, rfl⟩
      have HML : Hid (ml = mem.length) := hml
      rw [← hlb, ← hml] at HSZ hr7 ⊢
      clear hlb hml
      clear w6
      go_wp2_with fail
      refine (addNew_any (bs := bs) (bl := bl) i x w7 hm7 hb7'.size Hg.out.1 HX.out hs7.lt.1 hs7.lt.2).mono ?_; rintro e w8 ⟨b, rfl, hx8, hk8⟩
      have hk48 : Kept w4 w8 := hb7'.trans' hk8
      have HR8 : Hid (MemV w8 (.slice (some ⟨lb, 0, none⟩) ml ml) mem) := Row.kept hr7 hk8
      have HS8 : Hid (StoreAt w8 bs bl mem n') := hs7.kept hk8
      have HX8 : Hid (AmAt w8 b bm bs bl c i (newAM c i x) (NewB w7 w8)) := hx8
      have HZ8 : Hid (w4.heap.size ≤ w7.heap.size ∧ w7.heap.size ≤ w8.heap.size) := ⟨hb7'.size, hk8.size⟩
      clear hr7 hs7 hx8 hk8 hm7 hb7'
      go_upto_region 16 with fail
      go_cut [20] from 74 to 79 (fun yv wx => ∃ (yb : Nat) (ys : List Value) (tv xv : Value) (O : Nat → Prop), yv = .pointer (some ⟨yb, 0, none⟩) ∧ St13 c i w4 bm bs bl b yb wx mem n' (newAM c i x) O (.slice (some ⟨lb, 0, none⟩) ml ml) mem ys tv xv (newAM c i x))
      case first =>

        have HSP : Hid (∀ W, Kept w4 W → W.cell? ⟨ab, 0, none⟩ = some (.slice aa ln acap) ∧ W.cell? ⟨ab, 1, none⟩ = some (.int .i64 (manyI c)) ∧ W.cell? ⟨cb, 0, none⟩ = some (.int .i64 c.c0) ∧ W.cell? ⟨cb, 1, none⟩ = some (.int .i64 c.c1) ∧ W.cell? ⟨cb, 2, none⟩ = some (.int .i64 c.c2) ∧ W.cell? ⟨cb, 3, none⟩ = some (.int .i64 c.c3) ∧ W.cell? ⟨cb, 4, none⟩ = some (.int .i64 c.c4) ∧ W.cell? ⟨cb, 5, none⟩ = some (.int .i64 c.mks) ∧ W.cell? ⟨cb, 6, none⟩ = some (.int .i64 c.mus) ∧ W.cell? ⟨cb, 7, none⟩ = some (.int .i64 c.dq) ∧ W.cell? ⟨cb, 8, none⟩ = some (.int .i64 c.ch) ∧ W.cell? ⟨cb, 9, none⟩ = some (.int .i64 c.bu) ∧ W.cell? ⟨cb, 10, none⟩ = some (.int .i64 c.ro) ∧ W.cell? ⟨cb, 11, none⟩ = some (.int .i64 c.sw)) := fun W k => by
          have h1 := (HA.out W k).2
          have h2 := HCF.out W k
          exact ⟨h1.cell 0, h1.cell 1, h2.cell 0, h2.cell 1, h2.cell 2, h2.cell 3, h2.cell 4, h2.cell 5, h2.cell 6, h2.cell 7, h2.cell 8, h2.cell 9, h2.cell 10, h2.cell 11⟩
        have hkD : Kept w8 w8.drew := (Below.refl _ _).drew
        obtain ⟨a0, a1, q0, q1, q2, q3, q4, q5, q6, q7, q8, q9, q10, q11⟩ := HSP.out w8.drew (hk48.trans' hkD)
        go_wp2_with fail
        refine wp_region_z 7 (fun w' => w'.cell? ⟨ab, 0, none⟩ = some (.slice aa ln acap) ∧ w'.cell? ⟨ab, 1, none⟩ = some (.int .i64 (manyI c)) ∧ w'.cell? ⟨cb, 0, none⟩ = some (.int .i64 c.c0) ∧ w'.cell? ⟨cb, 1, none⟩ = some (.int .i64 c.c1) ∧ w'.cell? ⟨cb, 2, none⟩ = some (.int .i64 c.c2) ∧ w'.cell? ⟨cb, 3, none⟩ = some (.int .i64 c.c3) ∧ w'.cell? ⟨cb, 4, none⟩ = some (.int .i64 c.c4) ∧ w'.cell? ⟨cb, 5, none⟩ = some (.int .i64 c.mks) ∧ w'.cell? ⟨cb, 6, none⟩ = some (.int .i64 c.mus) ∧ w'.cell? ⟨cb, 7, none⟩ = some (.int .i64 c.dq) ∧ w'.cell? ⟨cb, 8, none⟩ = some (.int .i64 c.ch) ∧ w'.cell? ⟨cb, 9, none⟩ = some (.int .i64 c.bu) ∧ w'.cell? ⟨cb, 10, none⟩ = some (.int .i64 c.ro) ∧ w'.cell? ⟨cb, 11, none⟩ = some (.int .i64 c.sw)) (by kernel_rfl) ?_
        refine wpAnyZ_take (i := 0) (v := ?v0z1) rfl (by kernel_rfl) (by kernel_rfl) (by kernel_rfl) (by kernel_rfl) (fun _ _ _ h => h) (Or.inl ⟨by rfl, ?hy0z1⟩) ⟨a0,a1,q0,q1,q2,q3,q4,q5,q6,q7,q8,q9,q10,q11⟩ ?_
        case hy0z1 => intro w hSw; (try dsimp only at hSw); first | (go_simp; done) | (go_simp; with_reducible rfl)
        try simp only [Act.put, List.setIfInBounds_toArray]
        refine wpAnyZ_take (i := 1) (v := ?v1z1) rfl (by kernel_rfl) (by kernel_rfl) (by kernel_rfl) (by kernel_rfl) (fun _ _ _ h => h) (Or.inl ⟨by rfl, ?hy1z1⟩) ⟨a0,a1,q0,q1,q2,q3,q4,q5,q6,q7,q8,q9,q10,q11⟩ ?_
        case hy1z1 => intro w hSw; (try dsimp only at hSw); first | (go_simp; done) | (go_simp; with_reducible rfl)
        try simp only [Act.put]
        refine wpAnyZ_take (i := 3) (v := ?v3z1) rfl (by kernel_rfl) (by kernel_rfl) (by kernel_rfl) (by kernel_rfl) (fun _ _ _ h => h) (Or.inl ⟨by rfl, ?hy3z1⟩) ⟨a0,a1,q0,q1,q2,q3,q4,q5,q6,q7,q8,q9,q10,q11⟩ ?_
        case hy3z1 => intro w hSw; (try dsimp only at hSw); first | (go_simp; done) | (go_simp; with_reducible rfl)
        try simp only [Act.put]
        refine wpAnyZ_take (i := 4) (v := ?v4z1) rfl (by kernel_rfl) (by kernel_rfl) (by kernel_rfl) (by kernel_rfl) (fun _ _ _ h => h) (Or.inl ⟨by rfl, ?hy4z1⟩) ⟨a0,a1,q0,q1,q2,q3,q4,q5,q6,q7,q8,q9,q10,q11⟩ ?_
        case hy4z1 => intro w hSw; (try dsimp only at hSw); first | (go_simp; done) | (go_simp; with_reducible rfl)
        try simp only [Act.put]
        clear a0 a1 q0 q1 q2 q3 q4 q5 q6 q7 q8 q9 q10 q11
        refine wpAnyZ_two (i := 2) (j := 6) (by kernel_rfl) rfl rfl (fun K hK => ?_) (fun K hK => ?_)
        · skip
          go_simp
          go_at_call 8
          refine (model13_any c _).mono ?_; rintro r wm ⟨rfl, hkc⟩
          have hkm : Kept w8 wm := hkD.trans' hkc
          clear hkc
          refine hK.out _ _ (fun _ => HSP.out _ (hk48.trans' hkm)) ?_
          clear hK K
          try simp only [Act.put, List.setIfInBounds_toArray, List.set_cons_zero, List.set_cons_succ]
          refine wpAnyZ_two (i := 5) (j := 6) (by kernel_rfl) rfl rfl (fun K hK => ?_) (fun K hK => ?_)
          · skip
            go_simp
            go_at_call 14
            refine (new13_ref i x _ Hg.out.1 (HA.out _ (hk48.trans' hkm)).1 HX.out).mono ?_; rintro r wn ⟨v9, rfl, hr9, hkc⟩
            have hkn : Kept w8 wn := hkm.trans' hkc
            obtain ⟨⟨ytk, yk0, yk1, yk2, yk3, yk4, yk5, yk6, yk7, yk8, yk10, yk9, yp0, yp1, yp3, yp4, yp5, yp6, yp7, yp9, yp10, yp11, yp12, yv, _, _⟩, _, _, _⟩ := id hr9
            obtain ⟨ypc, hypc⟩ : ∃ ypc, ypc = pcA (newAM c i x).pc := ⟨_, rfl⟩
            obtain ⟨ysp, hysp⟩ : ∃ ysp, ysp = (newAM c i x).spilled := ⟨_, rfl⟩
            rw [← hypc, ← hysp] at yv
            clear hypc hysp
            have hr9' : R13 w8 _ c i _ _ (newAM c i x) := hr9.any (newAM_pool c i x)
            subst yv
            clear hr9
            refine hK.out _ _ (fun _ => HSP.out _ (hk48.trans' hkn)) ?_
            clear hK K
            try simp only [Act.put, List.setIfInBounds_toArray, List.set_cons_zero, List.set_cons_succ]
            refine wpAnyZ_one (i := 6) (by kernel_rfl) rfl (fun K hK => ?_)
            go_simp
            obtain ⟨yb, hyb⟩ : ∃ yb, yb = wn.heap.size := ⟨_, rfl⟩
            have HYB : Hid (w8.heap.size ≤ yb) := by rw [hyb]; exact hkn.size
            have hz0 : Blk (wn.alloc (.cells ([.int .i64 0, .int .u64 0, .int .i64 0, .int .i64 0, .int .i64 0, .int .i64 0, .int .i64 0, .int .i64 0, .int .u64 0, .int .u64 0, .int .u64 0, .bool false, .int .i64 0, .int .i64 0, .int .i64 0, .slice none 0 0, .int .i64 0, .int .i64 0, .int .i64 0, .int .i64 0, .int .i64 0, .slice none 0 0, .int .u32 0, .int .u64 0, .int .u32 0, .int .i64 0, .bool false] : List Value).toArray 59)) wn.heap.size 59 [.int .i64 0, .int .u64 0, .int .i64 0, .int .i64 0, .int .i64 0, .int .i64 0, .int .i64 0, .int .i64 0, .int .u64 0, .int .u64 0, .int .u64 0, .bool false, .int .i64 0, .int .i64 0, .int .i64 0, .slice none 0 0, .int .i64 0, .int .i64 0, .int .i64 0, .int .i64 0, .int .i64 0, .slice none 0 0, .int .u32 0, .int .u64 0, .int .u32 0, .int .i64 0, .bool false] := Blk.new wn _ _
            have hkc : Kept wn (wn.alloc (.cells ([.int .i64 0, .int .u64 0, .int .i64 0, .int .i64 0, .int .i64 0, .int .i64 0, .int .i64 0, .int .i64 0, .int .u64 0, .int .u64 0, .int .u64 0, .bool false, .int .i64 0, .int .i64 0, .int .i64 0, .slice none 0 0, .int .i64 0, .int .i64 0, .int .i64 0, .int .i64 0, .int .i64 0, .slice none 0 0, .int .u32 0, .int .u64 0, .int .u32 0, .int .i64 0, .bool false] : List Value).toArray 59)) := (Below.refl _ _).alloc (Nat.le_refl _) _
            rw [← hyb] at hz0 ⊢
            generalize wn.alloc (.cells ([.int .i64 0, .int .u64 0, .int .i64 0, .int .i64 0, .int .i64 0, .int .i64 0, .int .i64 0, .int .i64 0, .int .u64 0, .int .u64 0, .int .u64 0, .bool false, .int .i64 0, .int .i64 0, .int .i64 0, .slice none 0 0, .int .i64 0, .int .i64 0, .int .i64 0, .int .i64 0, .int .i64 0, .slice none 0 0, .int .u32 0, .int .u64 0, .int .u32 0, .int .i64 0, .bool false] : List Value).toArray 59) = wo at *
            have hko : Kept w8 wo := hkn.trans' hkc
            clear hyb hkc
            refine hK.out _ _ (fun _ => HSP.out _ (hk48.trans' hko)) ?_
            clear hK K
            try simp only [Act.put, List.setIfInBounds_toArray, List.set_cons_zero, List.set_cons_succ]
            refine wpAnyZ_one (i := 7) (by kernel_rfl) rfl (fun K hK => ?_)
            rw [if_pos (by kernel_rfl)]
            refine wp_store_row 59 _ _ rfl hz0 0 rfl [.int .i64 (ypc), .int .u64 (ytk), .int .i64 (yk0), .int .i64 (yk1), .int .i64 (yk2), .int .i64 (yk3), .int .i64 (yk4), .int .i64 (yk5), .int .u64 (yk6), .int .u64 (yk7), .int .u64 (yk8), .bool (yk9), .int .i64 (yk10), .int .i64 (yp0), .int .i64 (yp1), .slice none 0 0, .int .i64 (yp3), .int .i64 (yp4), .int .i64 (yp5), .int .i64 (yp6), .int .i64 (yp7), .slice none 0 0, .int .u32 (yp9), .int .u64 (yp10), .int .u32 (yp11), .int .i64 (yp12), .bool (ysp)] [.int .i64 (ypc), .int .u64 (ytk), .int .i64 (yk0), .int .i64 (yk1), .int .i64 (yk2), .int .i64 (yk3), .int .i64 (yk4), .int .i64 (yk5), .int .u64 (yk6), .int .u64 (yk7), .int .u64 (yk8), .bool (yk9), .int .i64 (yk10), .int .i64 (yp0), .int .i64 (yp1), .slice none 0 0, .int .i64 (yp3), .int .i64 (yp4), .int .i64 (yp5), .int .i64 (yp6), .int .i64 (yp7), .slice none 0 0, .int .u32 (yp9), .int .u64 (yp10), .int .u32 (yp11), .int .i64 (yp12), .bool (ysp)] rfl rfl (by simp) rfl (by kernel_rfl) ?_
            refine hK.out _ _ (fun h => absurd rfl h) ?_
            refine wpAnyZ_done (by kernel_rfl) ?_ _
            clear hK K
            have hyF : Blk (wo.setRow yb ([.int .i64 (ypc), .int .u64 (ytk), .int .i64 (yk0), .int .i64 (yk1), .int .i64 (yk2), .int .i64 (yk3), .int .i64 (yk4), .int .i64 (yk5), .int .u64 (yk6), .int .u64 (yk7), .int .u64 (yk8), .bool (yk9), .int .i64 (yk10), .int .i64 (yp0), .int .i64 (yp1), .slice none 0 0, .int .i64 (yp3), .int .i64 (yp4), .int .i64 (yp5), .int .i64 (yp6), .int .i64 (yp7), .slice none 0 0, .int .u32 (yp9), .int .u64 (yp10), .int .u32 (yp11), .int .i64 (yp12), .bool (ysp)] : List Value).toArray) yb 59 [.int .i64 (ypc), .int .u64 (ytk), .int .i64 (yk0), .int .i64 (yk1), .int .i64 (yk2), .int .i64 (yk3), .int .i64 (yk4), .int .i64 (yk5), .int .u64 (yk6), .int .u64 (yk7), .int .u64 (yk8), .bool (yk9), .int .i64 (yk10), .int .i64 (yp0), .int .i64 (yp1), .slice none 0 0, .int .i64 (yp3), .int .i64 (yp4), .int .i64 (yp5), .int .i64 (yp6), .int .i64 (yp7), .slice none 0 0, .int .u32 (yp9), .int .u64 (yp10), .int .u32 (yp11), .int .i64 (yp12), .bool (ysp)] := Blk.setRow hz0 _
            have hkF : Kept w8 (wo.setRow yb ([.int .i64 (ypc), .int .u64 (ytk), .int .i64 (yk0), .int .i64 (yk1), .int .i64 (yk2), .int .i64 (yk3), .int .i64 (yk4), .int .i64 (yk5), .int .u64 (yk6), .int .u64 (yk7), .int .u64 (yk8), .bool (yk9), .int .i64 (yk10), .int .i64 (yp0), .int .i64 (yp1), .slice none 0 0, .int .i64 (yp3), .int .i64 (yp4), .int .i64 (yp5), .int .i64 (yp6), .int .i64 (yp7), .slice none 0 0, .int .u32 (yp9), .int .u64 (yp10), .int .u32 (yp11), .int .i64 (yp12), .bool (ysp)] : List Value).toArray) := Below.setRow hko _ HYB.out
            generalize (wo.setRow yb ([.int .i64 (ypc), .int .u64 (ytk), .int .i64 (yk0), .int .i64 (yk1), .int .i64 (yk2), .int .i64 (yk3), .int .i64 (yk4), .int .i64 (yk5), .int .u64 (yk6), .int .u64 (yk7), .int .u64 (yk8), .bool (yk9), .int .i64 (yk10), .int .i64 (yp0), .int .i64 (yp1), .slice none 0 0, .int .i64 (yp3), .int .i64 (yp4), .int .i64 (yp5), .int .i64 (yp6), .int .i64 (yp7), .slice none 0 0, .int .u32 (yp9), .int .u64 (yp10), .int .u32 (yp11), .int .i64 (yp12), .bool (ysp)] : List Value).toArray) = wF at *
            go_wp2_with fail
            go_meet
            case rel => exact ⟨yb, [.int .i64 (ypc), .int .u64 (ytk), .int .i64 (yk0), .int .i64 (yk1), .int .i64 (yk2), .int .i64 (yk3), .int .i64 (yk4), .int .i64 (yk5), .int .u64 (yk6), .int .u64 (yk7), .int .u64 (yk8), .bool (yk9), .int .i64 (yk10), .int .i64 (yp0), .int .i64 (yp1), .slice none 0 0, .int .i64 (yp3), .int .i64 (yp4), .int .i64 (yp5), .int .i64 (yp6), .int .i64 (yp7), .slice none 0 0, .int .u32 (yp9), .int .u64 (yp10), .int .u32 (yp11), .int .i64 (yp12), .bool (ysp)], _, _, _, rfl, St13.init HX8.out (fun q hq => ⟨by have := hq.1; have := HZ8.out; omega, fun e => by simp [Value.ownBlock] at e; have := hq.1; have := HSZ.out; omega⟩) hk48 hkF HS8.out ⟨hBs, hBl⟩ HR8.out (by have h0 := HSZ.out.2.2.2.2; rw [HML.out] at h0; exact h0) (fun g e => by simp [Value.ownBlock] at e; have := HSZ.out; omega) (hr9'.any (newAM_pool c i x)) (newAM_pool c i x) HYB.out hyF⟩
          · skip
            go_simp
            obtain ⟨yb, hyb⟩ : ∃ yb, yb = wm.heap.size := ⟨_, rfl⟩
            have HYB : Hid (w8.heap.size ≤ yb) := by rw [hyb]; exact hkm.size
            have hz0 : Blk (wm.alloc (.cells ([.int .i64 0, .int .u64 0, .int .i64 0, .int .i64 0, .int .i64 0, .int .i64 0, .int .i64 0, .int .i64 0, .int .u64 0, .int .u64 0, .int .u64 0, .bool false, .int .i64 0, .int .i64 0, .int .i64 0, .slice none 0 0, .int .i64 0, .int .i64 0, .int .i64 0, .int .i64 0, .int .i64 0, .slice none 0 0, .int .u32 0, .int .u64 0, .int .u32 0, .int .i64 0, .bool false] : List Value).toArray 59)) wm.heap.size 59 [.int .i64 0, .int .u64 0, .int .i64 0, .int .i64 0, .int .i64 0, .int .i64 0, .int .i64 0, .int .i64 0, .int .u64 0, .int .u64 0, .int .u64 0, .bool false, .int .i64 0, .int .i64 0, .int .i64 0, .slice none 0 0, .int .i64 0, .int .i64 0, .int .i64 0, .int .i64 0, .int .i64 0, .slice none 0 0, .int .u32 0, .int .u64 0, .int .u32 0, .int .i64 0, .bool false] := Blk.new wm _ _
            have hkc : Kept wm (wm.alloc (.cells ([.int .i64 0, .int .u64 0, .int .i64 0, .int .i64 0, .int .i64 0, .int .i64 0, .int .i64 0, .int .i64 0, .int .u64 0, .int .u64 0, .int .u64 0, .bool false, .int .i64 0, .int .i64 0, .int .i64 0, .slice none 0 0, .int .i64 0, .int .i64 0, .int .i64 0, .int .i64 0, .int .i64 0, .slice none 0 0, .int .u32 0, .int .u64 0, .int .u32 0, .int .i64 0, .bool false] : List Value).toArray 59)) := (Below.refl _ _).alloc (Nat.le_refl _) _
            rw [← hyb] at hz0 ⊢
            generalize wm.alloc (.cells ([.int .i64 0, .int .u64 0, .int .i64 0, .int .i64 0, .int .i64 0, .int .i64 0, .int .i64 0, .int .i64 0, .int .u64 0, .int .u64 0, .int .u64 0, .bool false, .int .i64 0, .int .i64 0, .int .i64 0, .slice none 0 0, .int .i64 0, .int .i64 0, .int .i64 0, .int .i64 0, .int .i64 0, .slice none 0 0, .int .u32 0, .int .u64 0, .int .u32 0, .int .i64 0, .bool false] : List Value).toArray 59) = wo at *
            have hko : Kept w8 wo := hkm.trans' hkc
            clear hyb hkc
            refine hK.out _ _ (fun _ => HSP.out _ (hk48.trans' hko)) ?_
            clear hK K
            try simp only [Act.put, List.setIfInBounds_toArray, List.set_cons_zero, List.set_cons_succ]
            refine wpAnyZ_one (i := 5) (by kernel_rfl) rfl (fun K hK => ?_)
            go_simp
            go_at_call 14
            refine (new13_ref i x _ Hg.out.1 (HA.out _ (hk48.trans' hko)).1 HX.out).mono ?_; rintro r wn ⟨v9, rfl, hr9, hkc⟩
            have hkn : Kept w8 wn := hko.trans' hkc
            obtain ⟨⟨ytk, yk0, yk1, yk2, yk3, yk4, yk5, yk6, yk7, yk8, yk10, yk9, yp0, yp1, yp3, yp4, yp5, yp6, yp7, yp9, yp10, yp11, yp12, yv, _, _⟩, _, _, _⟩ := id hr9
            obtain ⟨ypc, hypc⟩ : ∃ ypc, ypc = pcA (newAM c i x).pc := ⟨_, rfl⟩
            obtain ⟨ysp, hysp⟩ : ∃ ysp, ysp = (newAM c i x).spilled := ⟨_, rfl⟩
            rw [← hypc, ← hysp] at yv
            clear hypc hysp
            have hr9' : R13 w8 _ c i _ _ (newAM c i x) := hr9.any (newAM_pool c i x)
            subst yv
            clear hr9
            have hz1 := hkc.blk hz0
            clear hz0 hkc
            refine hK.out _ _ (fun _ => HSP.out _ (hk48.trans' hkn)) ?_
            clear hK K
            try simp only [Act.put, List.setIfInBounds_toArray, List.set_cons_zero, List.set_cons_succ]
            refine wpAnyZ_one (i := 7) (by kernel_rfl) rfl (fun K hK => ?_)
            rw [if_pos (by kernel_rfl)]
            refine wp_store_row 59 _ _ rfl hz1 0 rfl [.int .i64 (ypc), .int .u64 (ytk), .int .i64 (yk0), .int .i64 (yk1), .int .i64 (yk2), .int .i64 (yk3), .int .i64 (yk4), .int .i64 (yk5), .int .u64 (yk6), .int .u64 (yk7), .int .u64 (yk8), .bool (yk9), .int .i64 (yk10), .int .i64 (yp0), .int .i64 (yp1), .slice none 0 0, .int .i64 (yp3), .int .i64 (yp4), .int .i64 (yp5), .int .i64 (yp6), .int .i64 (yp7), .slice none 0 0, .int .u32 (yp9), .int .u64 (yp10), .int .u32 (yp11), .int .i64 (yp12), .bool (ysp)] [.int .i64 (ypc), .int .u64 (ytk), .int .i64 (yk0), .int .i64 (yk1), .int .i64 (yk2), .int .i64 (yk3), .int .i64 (yk4), .int .i64 (yk5), .int .u64 (yk6), .int .u64 (yk7), .int .u64 (yk8), .bool (yk9), .int .i64 (yk10), .int .i64 (yp0), .int .i64 (yp1), .slice none 0 0, .int .i64 (yp3), .int .i64 (yp4), .int .i64 (yp5), .int .i64 (yp6), .int .i64 (yp7), .slice none 0 0, .int .u32 (yp9), .int .u64 (yp10), .int .u32 (yp11), .int .i64 (yp12), .bool (ysp)] rfl rfl (by simp) rfl (by kernel_rfl) ?_
            refine hK.out _ _ (fun h => absurd rfl h) ?_
            refine wpAnyZ_done (by kernel_rfl) ?_ _
            clear hK K
            have hyF : Blk (wn.setRow yb ([.int .i64 (ypc), .int .u64 (ytk), .int .i64 (yk0), .int .i64 (yk1), .int .i64 (yk2), .int .i64 (yk3), .int .i64 (yk4), .int .i64 (yk5), .int .u64 (yk6), .int .u64 (yk7), .int .u64 (yk8), .bool (yk9), .int .i64 (yk10), .int .i64 (yp0), .int .i64 (yp1), .slice none 0 0, .int .i64 (yp3), .int .i64 (yp4), .int .i64 (yp5), .int .i64 (yp6), .int .i64 (yp7), .slice none 0 0, .int .u32 (yp9), .int .u64 (yp10), .int .u32 (yp11), .int .i64 (yp12), .bool (ysp)] : List Value).toArray) yb 59 [.int .i64 (ypc), .int .u64 (ytk), .int .i64 (yk0), .int .i64 (yk1), .int .i64 (yk2), .int .i64 (yk3), .int .i64 (yk4), .int .i64 (yk5), .int .u64 (yk6), .int .u64 (yk7), .int .u64 (yk8), .bool (yk9), .int .i64 (yk10), .int .i64 (yp0), .int .i64 (yp1), .slice none 0 0, .int .i64 (yp3), .int .i64 (yp4), .int .i64 (yp5), .int .i64 (yp6), .int .i64 (yp7), .slice none 0 0, .int .u32 (yp9), .int .u64 (yp10), .int .u32 (yp11), .int .i64 (yp12), .bool (ysp)] := Blk.setRow hz1 _
            have hkF : Kept w8 (wn.setRow yb ([.int .i64 (ypc), .int .u64 (ytk), .int .i64 (yk0), .int .i64 (yk1), .int .i64 (yk2), .int .i64 (yk3), .int .i64 (yk4), .int .i64 (yk5), .int .u64 (yk6), .int .u64 (yk7), .int .u64 (yk8), .bool (yk9), .int .i64 (yk10), .int .i64 (yp0), .int .i64 (yp1), .slice none 0 0, .int .i64 (yp3), .int .i64 (yp4), .int .i64 (yp5), .int .i64 (yp6), .int .i64 (yp7), .slice none 0 0, .int .u32 (yp9), .int .u64 (yp10), .int .u32 (yp11), .int .i64 (yp12), .bool (ysp)] : List Value).toArray) := Below.setRow hkn _ HYB.out
            generalize (wn.setRow yb ([.int .i64 (ypc), .int .u64 (ytk), .int .i64 (yk0), .int .i64 (yk1), .int .i64 (yk2), .int .i64 (yk3), .int .i64 (yk4), .int .i64 (yk5), .int .u64 (yk6), .int .u64 (yk7), .int .u64 (yk8), .bool (yk9), .int .i64 (yk10), .int .i64 (yp0), .int .i64 (yp1), .slice none 0 0, .int .i64 (yp3), .int .i64 (yp4), .int .i64 (yp5), .int .i64 (yp6), .int .i64 (yp7), .slice none 0 0, .int .u32 (yp9), .int .u64 (yp10), .int .u32 (yp11), .int .i64 (yp12), .bool (ysp)] : List Value).toArray) = wF at *
            go_wp2_with fail
            go_meet
            case rel => exact ⟨yb, [.int .i64 (ypc), .int .u64 (ytk), .int .i64 (yk0), .int .i64 (yk1), .int .i64 (yk2), .int .i64 (yk3), .int .i64 (yk4), .int .i64 (yk5), .int .u64 (yk6), .int .u64 (yk7), .int .u64 (yk8), .bool (yk9), .int .i64 (yk10), .int .i64 (yp0), .int .i64 (yp1), .slice none 0 0, .int .i64 (yp3), .int .i64 (yp4), .int .i64 (yp5), .int .i64 (yp6), .int .i64 (yp7), .slice none 0 0, .int .u32 (yp9), .int .u64 (yp10), .int .u32 (yp11), .int .i64 (yp12), .bool (ysp)], _, _, _, rfl, St13.init HX8.out (fun q hq => ⟨by have := hq.1; have := HZ8.out; omega, fun e => by simp [Value.ownBlock] at e; have := hq.1; have := HSZ.out; omega⟩) hk48 hkF HS8.out ⟨hBs, hBl⟩ HR8.out (by have h0 := HSZ.out.2.2.2.2; rw [HML.out] at h0; exact h0) (fun g e => by simp [Value.ownBlock] at e; have := HSZ.out; omega) (hr9'.any (newAM_pool c i x)) (newAM_pool c i x) HYB.out hyF⟩
        · skip
          go_simp
          obtain ⟨yb, hyb⟩ : ∃ yb, yb = w8.heap.size := ⟨_, rfl⟩
          have HYB : Hid (w8.heap.size ≤ yb) := by rw [hyb]; exact Nat.le_refl _
          have hz0 : Blk (w8.alloc (.cells ([.int .i64 0, .int .u64 0, .int .i64 0, .int .i64 0, .int .i64 0, .int .i64 0, .int .i64 0, .int .i64 0, .int .u64 0, .int .u64 0, .int .u64 0, .bool false, .int .i64 0, .int .i64 0, .int .i64 0, .slice none 0 0, .int .i64 0, .int .i64 0, .int .i64 0, .int .i64 0, .int .i64 0, .slice none 0 0, .int .u32 0, .int .u64 0, .int .u32 0, .int .i64 0, .bool false] : List Value).toArray 59)).drew w8.heap.size 59 [.int .i64 0, .int .u64 0, .int .i64 0, .int .i64 0, .int .i64 0, .int .i64 0, .int .i64 0, .int .i64 0, .int .u64 0, .int .u64 0, .int .u64 0, .bool false, .int .i64 0, .int .i64 0, .int .i64 0, .slice none 0 0, .int .i64 0, .int .i64 0, .int .i64 0, .int .i64 0, .int .i64 0, .slice none 0 0, .int .u32 0, .int .u64 0, .int .u32 0, .int .i64 0, .bool false] := Blk.new w8 _ _
          have hko : Kept w8 (w8.alloc (.cells ([.int .i64 0, .int .u64 0, .int .i64 0, .int .i64 0, .int .i64 0, .int .i64 0, .int .i64 0, .int .i64 0, .int .u64 0, .int .u64 0, .int .u64 0, .bool false, .int .i64 0, .int .i64 0, .int .i64 0, .slice none 0 0, .int .i64 0, .int .i64 0, .int .i64 0, .int .i64 0, .int .i64 0, .slice none 0 0, .int .u32 0, .int .u64 0, .int .u32 0, .int .i64 0, .bool false] : List Value).toArray 59)).drew := ((Below.refl _ _).alloc (Nat.le_refl _) _).drew
          rw [← hyb] at hz0 ⊢
          generalize (w8.alloc (.cells ([.int .i64 0, .int .u64 0, .int .i64 0, .int .i64 0, .int .i64 0, .int .i64 0, .int .i64 0, .int .i64 0, .int .u64 0, .int .u64 0, .int .u64 0, .bool false, .int .i64 0, .int .i64 0, .int .i64 0, .slice none 0 0, .int .i64 0, .int .i64 0, .int .i64 0, .int .i64 0, .int .i64 0, .slice none 0 0, .int .u32 0, .int .u64 0, .int .u32 0, .int .i64 0, .bool false] : List Value).toArray 59)).drew = wo at *
          clear hyb
          refine hK.out _ _ (fun _ => HSP.out _ (hk48.trans' hko)) ?_
          clear hK K
          try simp only [Act.put, List.setIfInBounds_toArray, List.set_cons_zero, List.set_cons_succ]
          refine wpAnyZ_one (i := 2) (by kernel_rfl) rfl (fun K hK => ?_)
          go_simp
          go_at_call 8
          refine (model13_any c _).mono ?_; rintro r wm ⟨rfl, hkc⟩
          have hkm2 : Kept w8 wm := hko.trans' hkc
          have hz1 := hkc.blk hz0
          clear hz0 hkc
          refine hK.out _ _ (fun _ => HSP.out _ (hk48.trans' hkm2)) ?_
          clear hK K
          try simp only [Act.put, List.setIfInBounds_toArray, List.set_cons_zero, List.set_cons_succ]
          refine wpAnyZ_one (i := 5) (by kernel_rfl) rfl (fun K hK => ?_)
          go_simp
          go_at_call 14
          refine (new13_ref i x _ Hg.out.1 (HA.out _ (hk48.trans' hkm2)).1 HX.out).mono ?_; rintro r wn ⟨v9, rfl, hr9, hkc⟩
          have hkn : Kept w8 wn := hkm2.trans' hkc
          obtain ⟨⟨ytk, yk0, yk1, yk2, yk3, yk4, yk5, yk6, yk7, yk8, yk10, yk9, yp0, yp1, yp3, yp4, yp5, yp6, yp7, yp9, yp10, yp11, yp12, yv, _, _⟩, _, _, _⟩ := id hr9
          obtain ⟨ypc, hypc⟩ : ∃ ypc, ypc = pcA (newAM c i x).pc := ⟨_, rfl⟩
          obtain ⟨ysp, hysp⟩ : ∃ ysp, ysp = (newAM c i x).spilled := ⟨_, rfl⟩
          rw [← hypc, ← hysp] at yv
          clear hypc hysp
          have hr9' : R13 w8 _ c i _ _ (newAM c i x) := hr9.any (newAM_pool c i x)
          subst yv
          clear hr9
          have hz2 := hkc.blk hz1
          clear hz1 hkc
          refine hK.out _ _ (fun _ => HSP.out _ (hk48.trans' hkn)) ?_
          clear hK K
          try simp only [Act.put, List.setIfInBounds_toArray, List.set_cons_zero, List.set_cons_succ]
          refine wpAnyZ_one (i := 7) (by kernel_rfl) rfl (fun K hK => ?_)
          rw [if_pos (by kernel_rfl)]
          refine wp_store_row 59 _ _ rfl hz2 0 rfl [.int .i64 (ypc), .int .u64 (ytk), .int .i64 (yk0), .int .i64 (yk1), .int .i64 (yk2), .int .i64 (yk3), .int .i64 (yk4), .int .i64 (yk5), .int .u64 (yk6), .int .u64 (yk7), .int .u64 (yk8), .bool (yk9), .int .i64 (yk10), .int .i64 (yp0), .int .i64 (yp1), .slice none 0 0, .int .i64 (yp3), .int .i64 (yp4), .int .i64 (yp5), .int .i64 (yp6), .int .i64 (yp7), .slice none 0 0, .int .u32 (yp9), .int .u64 (yp10), .int .u32 (yp11), .int .i64 (yp12), .bool (ysp)] [.int .i64 (ypc), .int .u64 (ytk), .int .i64 (yk0), .int .i64 (yk1), .int .i64 (yk2), .int .i64 (yk3), .int .i64 (yk4), .int .i64 (yk5), .int .u64 (yk6), .int .u64 (yk7), .int .u64 (yk8), .bool (yk9), .int .i64 (yk10), .int .i64 (yp0), .int .i64 (yp1), .slice none 0 0, .int .i64 (yp3), .int .i64 (yp4), .int .i64 (yp5), .int .i64 (yp6), .int .i64 (yp7), .slice none 0 0, .int .u32 (yp9), .int .u64 (yp10), .int .u32 (yp11), .int .i64 (yp12), .bool (ysp)] rfl rfl (by simp) rfl (by kernel_rfl) ?_
          refine hK.out _ _ (fun h => absurd rfl h) ?_
          refine wpAnyZ_done (by kernel_rfl) ?_ _
          clear hK K
          have hyF : Blk (wn.setRow yb ([.int .i64 (ypc), .int .u64 (ytk), .int .i64 (yk0), .int .i64 (yk1), .int .i64 (yk2), .int .i64 (yk3), .int .i64 (yk4), .int .i64 (yk5), .int .u64 (yk6), .int .u64 (yk7), .int .u64 (yk8), .bool (yk9), .int .i64 (yk10), .int .i64 (yp0), .int .i64 (yp1), .slice none 0 0, .int .i64 (yp3), .int .i64 (yp4), .int .i64 (yp5), .int .i64 (yp6), .int .i64 (yp7), .slice none 0 0, .int .u32 (yp9), .int .u64 (yp10), .int .u32 (yp11), .int .i64 (yp12), .bool (ysp)] : List Value).toArray) yb 59 [.int .i64 (ypc), .int .u64 (ytk), .int .i64 (yk0), .int .i64 (yk1), .int .i64 (yk2), .int .i64 (yk3), .int .i64 (yk4), .int .i64 (yk5), .int .u64 (yk6), .int .u64 (yk7), .int .u64 (yk8), .bool (yk9), .int .i64 (yk10), .int .i64 (yp0), .int .i64 (yp1), .slice none 0 0, .int .i64 (yp3), .int .i64 (yp4), .int .i64 (yp5), .int .i64 (yp6), .int .i64 (yp7), .slice none 0 0, .int .u32 (yp9), .int .u64 (yp10), .int .u32 (yp11), .int .i64 (yp12), .bool (ysp)] := Blk.setRow hz2 _
          have hkF : Kept w8 (wn.setRow yb ([.int .i64 (ypc), .int .u64 (ytk), .int .i64 (yk0), .int .i64 (yk1), .int .i64 (yk2), .int .i64 (yk3), .int .i64 (yk4), .int .i64 (yk5), .int .u64 (yk6), .int .u64 (yk7), .int .u64 (yk8), .bool (yk9), .int .i64 (yk10), .int .i64 (yp0), .int .i64 (yp1), .slice none 0 0, .int .i64 (yp3), .int .i64 (yp4), .int .i64 (yp5), .int .i64 (yp6), .int .i64 (yp7), .slice none 0 0, .int .u32 (yp9), .int .u64 (yp10), .int .u32 (yp11), .int .i64 (yp12), .bool (ysp)] : List Value).toArray) := Below.setRow hkn _ HYB.out
          generalize (wn.setRow yb ([.int .i64 (ypc), .int .u64 (ytk), .int .i64 (yk0), .int .i64 (yk1), .int .i64 (yk2), .int .i64 (yk3), .int .i64 (yk4), .int .i64 (yk5), .int .u64 (yk6), .int .u64 (yk7), .int .u64 (yk8), .bool (yk9), .int .i64 (yk10), .int .i64 (yp0), .int .i64 (yp1), .slice none 0 0, .int .i64 (yp3), .int .i64 (yp4), .int .i64 (yp5), .int .i64 (yp6), .int .i64 (yp7), .slice none 0 0, .int .u32 (yp9), .int .u64 (yp10), .int .u32 (yp11), .int .i64 (yp12), .bool (ysp)] : List Value).toArray) = wF at *
          go_wp2_with fail
          go_meet
          case rel => exact ⟨yb, [.int .i64 (ypc), .int .u64 (ytk), .int .i64 (yk0), .int .i64 (yk1), .int .i64 (yk2), .int .i64 (yk3), .int .i64 (yk4), .int .i64 (yk5), .int .u64 (yk6), .int .u64 (yk7), .int .u64 (yk8), .bool (yk9), .int .i64 (yk10), .int .i64 (yp0), .int .i64 (yp1), .slice none 0 0, .int .i64 (yp3), .int .i64 (yp4), .int .i64 (yp5), .int .i64 (yp6), .int .i64 (yp7), .slice none 0 0, .int .u32 (yp9), .int .u64 (yp10), .int .u32 (yp11), .int .i64 (yp12), .bool (ysp)], _, _, _, rfl, St13.init HX8.out (fun q hq => ⟨by have := hq.1; have := HZ8.out; omega, fun e => by simp [Value.ownBlock] at e; have := hq.1; have := HSZ.out; omega⟩) hk48 hkF HS8.out ⟨hBs, hBl⟩ HR8.out (by have h0 := HSZ.out.2.2.2.2; rw [HML.out] at h0; exact h0) (fun g e => by simp [Value.ownBlock] at e; have := HSZ.out; omega) (hr9'.any (newAM_pool c i x)) (newAM_pool c i x) HYB.out hyF⟩
      case rest =>
        obtain ⟨yb, ys, tv, xv, O, rfl, hst⟩ := hcut
        clear HR8 HS8 HX8 HZ8 HSZ hk48
        have hw14 : IntKind.i64.wrap ((pl : Int) + 14) = (pl : Int) + 14 := IntWalk.i64_in _ (by omega)
        go_wp2_with fail
        go_loopw [18, 21] (fun lv kv wr => ∃ (k : Nat) (mem : List Int) (n' : Int) (s : AM) (O : Nat → Prop) (ys : List Value) (tv xv : Value), k ≤ pl + 14 ∧ kv = .int .i64 k ∧ St13 c i w4 bm bs bl b yb wr mem n' s O lv mem ys tv xv s) (fun _ kv _ => pl + 14 - (intOf kv).toNat)
        case atStart => exact ⟨0, mem, n', _, O, ys, tv, xv, by omega, rfl, hst⟩
        case round =>
          clear hst HML
          obtain ⟨k, mem, n', s, O, ys, tv, xv, hkl, rfl, h⟩ := hrel
          by_cases hlt : (k : Int) < (pl : Int) + 14
          · have hk0 : (0 : Int) ≤ k := by omega
            obtain ⟨mo, mc, hlv⟩ := h.m.form
            obtain ⟨ml, hml⟩ : ∃ ml, ml = (mem.map (Value.int .u64)).length := ⟨_, rfl⟩
            rw [← hml] at hlv
            subst hlv
            clear hml
            obtain ⟨⟨ytk, yk0, yk1, yk2, yk3, yk4, yk5, yk6, yk7, yk8, yk10, yk9, yp0, yp1, yp3, yp4, yp5, yp6, yp7, yp9, yp10, yp11, yp12, yv, _, _⟩, ⟨yto, ytn, ytc, rfl⟩, ⟨yxo, yxn, yxc, rfl⟩, _⟩ := id h.rr
            obtain rfl := agg_cells yv
            clear yv
            have D := astep_any wr Hg.out.1 h.x h.st (hm4.below h.k (Nat.le_refl _)) h.k.size (fun q hq => (h.ob q hq).1) hBs hBl
            have hall := h.st.all
            have hlen := h.st.le
            have hok := fun hp => h.x.poolOk hp
            have hux := h.x.ux
            obtain ⟨po, hpo⟩ : ∃ po, pcA s.pc = po := ⟨_, rfl⟩
            obtain ⟨spo, hspo⟩ : ∃ spo, s.spilled = spo := ⟨_, rfl⟩
            have R := fun W (hr : R13 W (.agg ([.int .i64 ((pcA s.pc)), .int .u64 (ytk), .int .i64 (yk0), .int .i64 (yk1), .int .i64 (yk2), .int .i64 (yk3), .int .i64 (yk4), .int .i64 (yk5), .int .u64 (yk6), .int .u64 (yk7), .int .u64 (yk8), .bool (yk9), .int .i64 (yk10), .int .i64 (yp0), .int .i64 (yp1), .slice yto ytn ytc, .int .i64 (yp3), .int .i64 (yp4), .int .i64 (yp5), .int .i64 (yp6), .int .i64 (yp7), .slice yxo yxn yxc, .int .u32 (yp9), .int .u64 (yp10), .int .u32 (yp11), .int .i64 (yp12), .bool (s.spilled)] : List Value).toArray) c i (.slice yto ytn ytc) (.slice yxo yxn yxc) s) (hm : MemV W (.slice mo ml mc) mem) (hk : Kept w4 W) => step13_ref W Hg.out.1 (HA.out W hk).1 hr hm hall hlen hok hux
            simp only [Did13] at R
            generalize amStep c i mem s = q2 at D R
            obtain ⟨mem2, s2⟩ := q2
            simp only at D R
            obtain ⟨f2, hf2⟩ : ∃ f2, s2.pc.fin = f2 := ⟨_, rfl⟩
            obtain ⟨pn, hpn⟩ : ∃ pn, pcA s2.pc = pn := ⟨_, rfl⟩
            obtain ⟨sp2, hsp2⟩ : ∃ sp2, s2.spilled = sp2 := ⟨_, rfl⟩
            have HPN : Hid (pcA s2.pc = pn) := hpn
            have HSP : Hid (s2.spilled = sp2) := hsp2
            have hz2 : (pn == 0) = f2 := by rw [← hpn, ← hf2]; exact pcA_zero _
            obtain ⟨n2, hn2⟩ : ∃ n2, cntIf s.pc.fin n' = n2 := ⟨_, rfl⟩
            have hwas : (n2 == IntKind.i64.wrap (n' + 1)) = decide (po > 0) := by rw [← hn2, ← hpo]; exact cnt_wasA n' _
            rw [hf2, hn2] at D
            rw [hpo, hspo] at h R
            clear hf2 hpn hpo hn2 hsp2 hspo hall hlen hok hux
            have k0 := h.y.cell 0
            simp only [List.getElem?_cons_zero] at k0
            have HH : Hid (St13 c i w4 bm bs bl b yb wr mem n' s O (.slice mo ml mc) mem [.int .i64 (po), .int .u64 (ytk), .int .i64 (yk0), .int .i64 (yk1), .int .i64 (yk2), .int .i64 (yk3), .int .i64 (yk4), .int .i64 (yk5), .int .u64 (yk6), .int .u64 (yk7), .int .u64 (yk8), .bool (yk9), .int .i64 (yk10), .int .i64 (yp0), .int .i64 (yp1), .slice yto ytn ytc, .int .i64 (yp3), .int .i64 (yp4), .int .i64 (yp5), .int .i64 (yp6), .int .i64 (yp7), .slice yxo yxn yxc, .int .u32 (yp9), .int .u64 (yp10), .int .u32 (yp11), .int .i64 (yp12), .bool (spo)] (.slice yto ytn ytc) (.slice yxo yxn yxc) s) := h
            clear h
            go_wp2_with fail
            refine (mCount_any wr HH.out.st).mono ?_; rintro e w8 ⟨rfl, rfl⟩
            go_wp2_with fail
            refine D.mono ?_; rintro e w10 ⟨rfl, hx10, hs10, hc10⟩
            have h10 := HH.out.moved hx10 hs10 hc10
            have HR := R w10 h10.rr h10.m h10.k
            clear D hx10 hs10 hc10 HH k0 R
            have hy10 := h10.y
            have k0 := hy10.cell 0
            simp only [List.getElem?_cons_zero] at k0
            have h2 := (HA.out w10 h10.k).2
            have c0 := h2.cell 0
            have c1 := h2.cell 1
            simp only [List.getElem?_cons_zero, List.getElem?_cons_succ] at c0 c1
            have H10 : Hid (St13 c i w4 bm bs bl b yb w10 mem2 n2 s2 (Grow O wr w10) (.slice mo ml mc) mem [.int .i64 (po), .int .u64 (ytk), .int .i64 (yk0), .int .i64 (yk1), .int .i64 (yk2), .int .i64 (yk3), .int .i64 (yk4), .int .i64 (yk5), .int .u64 (yk6), .int .u64 (yk7), .int .u64 (yk8), .bool (yk9), .int .i64 (yk10), .int .i64 (yp0), .int .i64 (yp1), .slice yto ytn ytc, .int .i64 (yp3), .int .i64 (yp4), .int .i64 (yp5), .int .i64 (yp6), .int .i64 (yp7), .slice yxo yxn yxc, .int .u32 (yp9), .int .u64 (yp10), .int .u32 (yp11), .int .i64 (yp12), .bool (spo)] (.slice yto ytn ytc) (.slice yxo yxn yxc) s) := h10
            clear h10
            go_wp2_with (refine wpList_load_row rfl 59 _ rfl hy10 0 rfl [.int .i64 (po), .int .u64 (ytk), .int .i64 (yk0), .int .i64 (yk1), .int .i64 (yk2), .int .i64 (yk3), .int .i64 (yk4), .int .i64 (yk5), .int .u64 (yk6), .int .u64 (yk7), .int .u64 (yk8), .bool (yk9), .int .i64 (yk10), .int .i64 (yp0), .int .i64 (yp1), .slice yto ytn ytc, .int .i64 (yp3), .int .i64 (yp4), .int .i64 (yp5), .int .i64 (yp6), .int .i64 (yp7), .slice yxo yxn yxc, .int .u32 (yp9), .int .u64 (yp10), .int .u32 (yp11), .int .i64 (yp12), .bool (spo)] rfl _ Tryz.underlying59 rfl (by kernel_rfl) ?_)
            refine HR.mono ?_; rintro e w11 ⟨l2, v2, tv2, xv2, rfl, hm11, hr11, hk11, hl11, hx11⟩
            obtain ⟨⟨vtk, vk0, vk1, vk2, vk3, vk4, vk5, vk6, vk7, vk8, vk10, vk9, vp0, vp1, vp3, vp4, vp5, vp6, vp7, vp9, vp10, vp11, vp12, vv, _, _⟩, ⟨vto, vtn, vtc, rfl⟩, ⟨vxo, vxn, vxc, rfl⟩, _⟩ := id hr11
            subst vv
            rw [HPN.out, HSP.out] at hr11 ⊢
            clear h2 c0 c1 k0 HR
            have hz0 := Blk.new w11 59 [.int .i64 0, .int .u64 0, .int .i64 0, .int .i64 0, .int .i64 0, .int .i64 0, .int .i64 0, .int .i64 0, .int .u64 0, .int .u64 0, .int .u64 0, .bool false, .int .i64 0, .int .i64 0, .int .i64 0, .slice none 0 0, .int .i64 0, .int .i64 0, .int .i64 0, .int .i64 0, .int .i64 0, .slice none 0 0, .int .u32 0, .int .u64 0, .int .u32 0, .int .i64 0, .bool false]
            have hkz0 : Kept w11 (w11.alloc (.cells ([.int .i64 0, .int .u64 0, .int .i64 0, .int .i64 0, .int .i64 0, .int .i64 0, .int .i64 0, .int .i64 0, .int .u64 0, .int .u64 0, .int .u64 0, .bool false, .int .i64 0, .int .i64 0, .int .i64 0, .slice none 0 0, .int .i64 0, .int .i64 0, .int .i64 0, .int .i64 0, .int .i64 0, .slice none 0 0, .int .u32 0, .int .u64 0, .int .u32 0, .int .i64 0, .bool false] : List Value).toArray 59)) := (Below.refl _ _).alloc (Nat.le_refl _) _
            go_upto_region 25 with (refine wpList_store_row rfl 59 _ _ rfl hz0 0 rfl [.int .i64 (pn), .int .u64 (vtk), .int .i64 (vk0), .int .i64 (vk1), .int .i64 (vk2), .int .i64 (vk3), .int .i64 (vk4), .int .i64 (vk5), .int .u64 (vk6), .int .u64 (vk7), .int .u64 (vk8), .bool (vk9), .int .i64 (vk10), .int .i64 (vp0), .int .i64 (vp1), .slice vto vtn vtc, .int .i64 (vp3), .int .i64 (vp4), .int .i64 (vp5), .int .i64 (vp6), .int .i64 (vp7), .slice vxo vxn vxc, .int .u32 (vp9), .int .u64 (vp10), .int .u32 (vp11), .int .i64 (vp12), .bool (sp2)] [.int .i64 (pn), .int .u64 (vtk), .int .i64 (vk0), .int .i64 (vk1), .int .i64 (vk2), .int .i64 (vk3), .int .i64 (vk4), .int .i64 (vk5), .int .u64 (vk6), .int .u64 (vk7), .int .u64 (vk8), .bool (vk9), .int .i64 (vk10), .int .i64 (vp0), .int .i64 (vp1), .slice vto vtn vtc, .int .i64 (vp3), .int .i64 (vp4), .int .i64 (vp5), .int .i64 (vp6), .int .i64 (vp7), .slice vxo vxn vxc, .int .u32 (vp9), .int .u64 (vp10), .int .u32 (vp11), .int .i64 (vp12), .bool (sp2)] rfl rfl (by simp) rfl (by kernel_rfl) ?_)
            have hz : Blk ((w11.alloc (.cells ([.int .i64 0, .int .u64 0, .int .i64 0, .int .i64 0, .int .i64 0, .int .i64 0, .int .i64 0, .int .i64 0, .int .u64 0, .int .u64 0, .int .u64 0, .bool false, .int .i64 0, .int .i64 0, .int .i64 0, .slice none 0 0, .int .i64 0, .int .i64 0, .int .i64 0, .int .i64 0, .int .i64 0, .slice none 0 0, .int .u32 0, .int .u64 0, .int .u32 0, .int .i64 0, .bool false] : List Value).toArray 59)).setRow w11.heap.size ([.int .i64 (pn), .int .u64 (vtk), .int .i64 (vk0), .int .i64 (vk1), .int .i64 (vk2), .int .i64 (vk3), .int .i64 (vk4), .int .i64 (vk5), .int .u64 (vk6), .int .u64 (vk7), .int .u64 (vk8), .bool (vk9), .int .i64 (vk10), .int .i64 (vp0), .int .i64 (vp1), .slice vto vtn vtc, .int .i64 (vp3), .int .i64 (vp4), .int .i64 (vp5), .int .i64 (vp6), .int .i64 (vp7), .slice vxo vxn vxc, .int .u32 (vp9), .int .u64 (vp10), .int .u32 (vp11), .int .i64 (vp12), .bool (sp2)] : List Value).toArray) w11.heap.size 59 [.int .i64 (pn), .int .u64 (vtk), .int .i64 (vk0), .int .i64 (vk1), .int .i64 (vk2), .int .i64 (vk3), .int .i64 (vk4), .int .i64 (vk5), .int .u64 (vk6), .int .u64 (vk7), .int .u64 (vk8), .bool (vk9), .int .i64 (vk10), .int .i64 (vp0), .int .i64 (vp1), .slice vto vtn vtc, .int .i64 (vp3), .int .i64 (vp4), .int .i64 (vp5), .int .i64 (vp6), .int .i64 (vp7), .slice vxo vxn vxc, .int .u32 (vp9), .int .u64 (vp10), .int .u32 (vp11), .int .i64 (vp12), .bool (sp2)] := Blk.setRow hz0 _
            have hkz : Kept w11 ((w11.alloc (.cells ([.int .i64 0, .int .u64 0, .int .i64 0, .int .i64 0, .int .i64 0, .int .i64 0, .int .i64 0, .int .i64 0, .int .u64 0, .int .u64 0, .int .u64 0, .bool false, .int .i64 0, .int .i64 0, .int .i64 0, .slice none 0 0, .int .i64 0, .int .i64 0, .int .i64 0, .int .i64 0, .int .i64 0, .slice none 0 0, .int .u32 0, .int .u64 0, .int .u32 0, .int .i64 0, .bool false] : List Value).toArray 59)).setRow w11.heap.size ([.int .i64 (pn), .int .u64 (vtk), .int .i64 (vk0), .int .i64 (vk1), .int .i64 (vk2), .int .i64 (vk3), .int .i64 (vk4), .int .i64 (vk5), .int .u64 (vk6), .int .u64 (vk7), .int .u64 (vk8), .bool (vk9), .int .i64 (vk10), .int .i64 (vp0), .int .i64 (vp1), .slice vto vtn vtc, .int .i64 (vp3), .int .i64 (vp4), .int .i64 (vp5), .int .i64 (vp6), .int .i64 (vp7), .slice vxo vxn vxc, .int .u32 (vp9), .int .u64 (vp10), .int .u32 (vp11), .int .i64 (vp12), .bool (sp2)] : List Value).toArray) := Below.setRow hkz0 _ (Nat.le_refl _)
            generalize (w11.alloc (.cells ([.int .i64 0, .int .u64 0, .int .i64 0, .int .i64 0, .int .i64 0, .int .i64 0, .int .i64 0, .int .i64 0, .int .u64 0, .int .u64 0, .int .u64 0, .bool false, .int .i64 0, .int .i64 0, .int .i64 0, .slice none 0 0, .int .i64 0, .int .i64 0, .int .i64 0, .int .i64 0, .int .i64 0, .slice none 0 0, .int .u32 0, .int .u64 0, .int .u32 0, .int .i64 0, .bool false] : List Value).toArray 59)).setRow w11.heap.size ([.int .i64 (pn), .int .u64 (vtk), .int .i64 (vk0), .int .i64 (vk1), .int .i64 (vk2), .int .i64 (vk3), .int .i64 (vk4), .int .i64 (vk5), .int .u64 (vk6), .int .u64 (vk7), .int .u64 (vk8), .bool (vk9), .int .i64 (vk10), .int .i64 (vp0), .int .i64 (vp1), .slice vto vtn vtc, .int .i64 (vp3), .int .i64 (vp4), .int .i64 (vp5), .int .i64 (vp6), .int .i64 (vp7), .slice vxo vxn vxc, .int .u32 (vp9), .int .u64 (vp10), .int .u32 (vp11), .int .i64 (vp12), .bool (sp2)] : List Value).toArray = wz at *
            obtain ⟨zb, hzb⟩ : ∃ zb, w11.heap.size = zb := ⟨_, rfl⟩
            rw [hzb] at hz ⊢
            clear hz0 hkz0 hzb
            have hya := hkz.blk (hk11.blk hy10)
            go_wp2_with (first | (refine wpList_load_row rfl 59 _ rfl hz 0 rfl [.int .i64 (pn), .int .u64 (vtk), .int .i64 (vk0), .int .i64 (vk1), .int .i64 (vk2), .int .i64 (vk3), .int .i64 (vk4), .int .i64 (vk5), .int .u64 (vk6), .int .u64 (vk7), .int .u64 (vk8), .bool (vk9), .int .i64 (vk10), .int .i64 (vp0), .int .i64 (vp1), .slice vto vtn vtc, .int .i64 (vp3), .int .i64 (vp4), .int .i64 (vp5), .int .i64 (vp6), .int .i64 (vp7), .slice vxo vxn vxc, .int .u32 (vp9), .int .u64 (vp10), .int .u32 (vp11), .int .i64 (vp12), .bool (sp2)] rfl _ Tryz.underlying59 rfl (by kernel_rfl) ?_) | (refine wpList_store_row rfl 59 _ _ rfl hya 0 rfl [.int .i64 (pn), .int .u64 (vtk), .int .i64 (vk0), .int .i64 (vk1), .int .i64 (vk2), .int .i64 (vk3), .int .i64 (vk4), .int .i64 (vk5), .int .u64 (vk6), .int .u64 (vk7), .int .u64 (vk8), .bool (vk9), .int .i64 (vk10), .int .i64 (vp0), .int .i64 (vp1), .slice vto vtn vtc, .int .i64 (vp3), .int .i64 (vp4), .int .i64 (vp5), .int .i64 (vp6), .int .i64 (vp7), .slice vxo vxn vxc, .int .u32 (vp9), .int .u64 (vp10), .int .u32 (vp11), .int .i64 (vp12), .bool (sp2)] [.int .i64 (pn), .int .u64 (vtk), .int .i64 (vk0), .int .i64 (vk1), .int .i64 (vk2), .int .i64 (vk3), .int .i64 (vk4), .int .i64 (vk5), .int .u64 (vk6), .int .u64 (vk7), .int .u64 (vk8), .bool (vk9), .int .i64 (vk10), .int .i64 (vp0), .int .i64 (vp1), .slice vto vtn vtc, .int .i64 (vp3), .int .i64 (vp4), .int .i64 (vp5), .int .i64 (vp6), .int .i64 (vp7), .slice vxo vxn vxc, .int .u32 (vp9), .int .u64 (vp10), .int .u32 (vp11), .int .i64 (vp12), .bool (sp2)] rfl rfl (by simp) rfl (by kernel_rfl) ?_))
            have hy12 : Blk (wz.setRow yb ([.int .i64 (pn), .int .u64 (vtk), .int .i64 (vk0), .int .i64 (vk1), .int .i64 (vk2), .int .i64 (vk3), .int .i64 (vk4), .int .i64 (vk5), .int .u64 (vk6), .int .u64 (vk7), .int .u64 (vk8), .bool (vk9), .int .i64 (vk10), .int .i64 (vp0), .int .i64 (vp1), .slice vto vtn vtc, .int .i64 (vp3), .int .i64 (vp4), .int .i64 (vp5), .int .i64 (vp6), .int .i64 (vp7), .slice vxo vxn vxc, .int .u32 (vp9), .int .u64 (vp10), .int .u32 (vp11), .int .i64 (vp12), .bool (sp2)] : List Value).toArray) yb 59 [.int .i64 (pn), .int .u64 (vtk), .int .i64 (vk0), .int .i64 (vk1), .int .i64 (vk2), .int .i64 (vk3), .int .i64 (vk4), .int .i64 (vk5), .int .u64 (vk6), .int .u64 (vk7), .int .u64 (vk8), .bool (vk9), .int .i64 (vk10), .int .i64 (vp0), .int .i64 (vp1), .slice vto vtn vtc, .int .i64 (vp3), .int .i64 (vp4), .int .i64 (vp5), .int .i64 (vp6), .int .i64 (vp7), .slice vxo vxn vxc, .int .u32 (vp9), .int .u64 (vp10), .int .u32 (vp11), .int .i64 (vp12), .bool (sp2)] := Blk.setRow hya _
            have hc12 : Chg (fun q => q = yb) wz (wz.setRow yb ([.int .i64 (pn), .int .u64 (vtk), .int .i64 (vk0), .int .i64 (vk1), .int .i64 (vk2), .int .i64 (vk3), .int .i64 (vk4), .int .i64 (vk5), .int .u64 (vk6), .int .u64 (vk7), .int .u64 (vk8), .bool (vk9), .int .i64 (vk10), .int .i64 (vp0), .int .i64 (vp1), .slice vto vtn vtc, .int .i64 (vp3), .int .i64 (vp4), .int .i64 (vp5), .int .i64 (vp6), .int .i64 (vp7), .slice vxo vxn vxc, .int .u32 (vp9), .int .u64 (vp10), .int .u32 (vp11), .int .i64 (vp12), .bool (sp2)] : List Value).toArray) := Chg.setRow (Chg.refl _ _) _ _ (fun _ => rfl)
            generalize wz.setRow yb ([.int .i64 (pn), .int .u64 (vtk), .int .i64 (vk0), .int .i64 (vk1), .int .i64 (vk2), .int .i64 (vk3), .int .i64 (vk4), .int .i64 (vk5), .int .u64 (vk6), .int .u64 (vk7), .int .u64 (vk8), .bool (vk9), .int .i64 (vk10), .int .i64 (vp0), .int .i64 (vp1), .slice vto vtn vtc, .int .i64 (vp3), .int .i64 (vp4), .int .i64 (vp5), .int .i64 (vp6), .int .i64 (vp7), .slice vxo vxn vxc, .int .u32 (vp9), .int .u64 (vp10), .int .u32 (vp11), .int .i64 (vp12), .bool (sp2)] : List Value).toArray = w12 at *
            have h12 : St13 c i w4 bm bs bl b yb w12 mem2 n2 s2 (Grow O wr w10) l2 mem2 [.int .i64 (pn), .int .u64 (vtk), .int .i64 (vk0), .int .i64 (vk1), .int .i64 (vk2), .int .i64 (vk3), .int .i64 (vk4), .int .i64 (vk5), .int .u64 (vk6), .int .u64 (vk7), .int .u64 (vk8), .bool (vk9), .int .i64 (vk10), .int .i64 (vp0), .int .i64 (vp1), .slice vto vtn vtc, .int .i64 (vp3), .int .i64 (vp4), .int .i64 (vp5), .int .i64 (vp6), .int .i64 (vp7), .slice vxo vxn vxc, .int .u32 (vp9), .int .u64 (vp10), .int .u32 (vp11), .int .i64 (vp12), .bool (sp2)] (.slice vto vtn vtc) (.slice vxo vxn vxc) s2 := H10.out.refd (hk11.trans' hkz) (Row.kept hm11 hkz) (hr11.kept hkz) hl11 hx11 H10.out.st.pos hc12 hy12
            clear H10 hz hkz hya hy10 hm11 hr11 hk11 hl11 hx11 hc12 hy12 HPN
            have h13 := h12.kept (show Kept w12 w12.drew from (Below.refl _ _).drew)
            have d0 := h13.y.cell 0
            have d1 := h13.y.cell 26
            simp only [List.getElem?_cons_zero, List.getElem?_cons_succ] at d0 d1
            refine wp_region_z 99 (fun w' => w'.cell? ⟨yb, 0, none⟩ = some (.int .i64 pn) ∧ w'.cell? ⟨yb, 26, none⟩ = some (.bool sp2)) (by kernel_rfl) ?_
            refine wpAnyZ_takeN (i := 0) (v := ?v0z2) rfl (by kernel_rfl) (by kernel_rfl) (by kernel_rfl) (by kernel_rfl) (fun _ _ _ h => h) (Or.inl ⟨by rfl, ?hy0z2⟩) ⟨d0,d1⟩ ?_
            case hy0z2 => intro w hSw; (try dsimp only at hSw); first | (go_simp; done) | (go_simp; with_reducible rfl)
            try simp only [Act.put, List.getElem_toArray, List.getElem_cons_zero, List.setIfInBounds_toArray, List.set_cons_zero, List.set_cons_succ]
            refine wpAnyZ_takeN (i := 1) (v := ?v1z2) rfl (by kernel_rfl) (by kernel_rfl) (by kernel_rfl) (by kernel_rfl) (fun _ _ _ h => h) (Or.inl ⟨by rfl, ?hy1z2⟩) ⟨d0,d1⟩ ?_
            case hy1z2 => intro w hSw; (try dsimp only at hSw); first | (go_simp; done) | (go_simp; with_reducible rfl)
            try simp only [Act.put, List.getElem_toArray, List.getElem_cons_zero, List.getElem_cons_succ, List.setIfInBounds_toArray, List.set_cons_zero, List.set_cons_succ]
            refine wpAnyZ_takeN (i := 2) (v := ?v2z2) rfl (by kernel_rfl) (by kernel_rfl) (by kernel_rfl) (by kernel_rfl) (fun _ _ _ h => h) (Or.inl ⟨by rfl, ?hy2z2⟩) ⟨d0,d1⟩ ?_
            case hy2z2 => intro w hSw; (try dsimp only at hSw); first | (go_simp; done) | (go_simp; with_reducible rfl)
            try simp only [Act.put, List.getElem_toArray, List.getElem_cons_zero, List.getElem_cons_succ, List.setIfInBounds_toArray, List.set_cons_zero, List.set_cons_succ]
            refine wpAnyZ_takeN (i := 3) (v := ?v3z2) rfl (by kernel_rfl) (by kernel_rfl) (by kernel_rfl) (by kernel_rfl) (fun _ _ _ h => h) (Or.inl ⟨by rfl, ?hy3z2⟩) ⟨d0,d1⟩ ?_
            case hy3z2 => intro w hSw; (try dsimp only at hSw); first | (go_simp; done) | (go_simp; with_reducible rfl)
            try simp only [Act.put, List.getElem_toArray, List.getElem_cons_zero, List.getElem_cons_succ, List.setIfInBounds_toArray, List.set_cons_zero, List.set_cons_succ]
            refine wpAnyZ_takeN (i := 4) (v := ?v4z2) rfl (by kernel_rfl) (by kernel_rfl) (by kernel_rfl) (by kernel_rfl) (fun _ _ _ h => h) (Or.inl ⟨by rfl, ?hy4z2⟩) ⟨d0,d1⟩ ?_
            case hy4z2 => intro w hSw; (try dsimp only at hSw); first | (go_simp; done) | (go_simp; with_reducible rfl)
            try simp only [Act.put, List.getElem_toArray, List.getElem_cons_zero, List.getElem_cons_succ, List.setIfInBounds_toArray, List.set_cons_zero, List.set_cons_succ]
            refine wpAnyZ_takeN (i := 5) (v := ?v5z2) rfl (by kernel_rfl) (by kernel_rfl) (by kernel_rfl) (by kernel_rfl) (fun _ _ _ h => h) (Or.inl ⟨by rfl, ?hy5z2⟩) ⟨d0,d1⟩ ?_
            case hy5z2 => intro w hSw; (try dsimp only at hSw); first | (go_simp; done) | (go_simp; with_reducible rfl)
            try simp only [Act.put, List.getElem_toArray, List.getElem_cons_zero, List.getElem_cons_succ, List.setIfInBounds_toArray, List.set_cons_zero, List.set_cons_succ]
            refine wpAnyZ_takeN (i := 6) (v := ?v6z2) rfl (by kernel_rfl) (by kernel_rfl) (by kernel_rfl) (by kernel_rfl) (fun _ _ _ h => h) (Or.inl ⟨by rfl, ?hy6z2⟩) ⟨d0,d1⟩ ?_
            case hy6z2 => intro w hSw; (try dsimp only at hSw); first | (go_simp; done) | (go_simp; with_reducible rfl)
            try simp only [Act.put, List.getElem_toArray, List.getElem_cons_zero, List.getElem_cons_succ, List.setIfInBounds_toArray, List.set_cons_zero, List.set_cons_succ]
            refine wpAnyZ_takeN (i := 8) (v := ?v8z2) rfl (by kernel_rfl) (by kernel_rfl) (by kernel_rfl) (by kernel_rfl) (fun _ _ _ h => h) (Or.inl ⟨by rfl, ?hy8z2⟩) ⟨d0,d1⟩ ?_
            case hy8z2 => intro w hSw; (try dsimp only at hSw); first | (go_simp; done) | (go_simp; with_reducible rfl)
            try simp only [Act.put, List.getElem_toArray, List.getElem_cons_zero, List.getElem_cons_succ, List.setIfInBounds_toArray, List.set_cons_zero, List.set_cons_succ]
            refine wpAnyZ_takeN (i := 9) (v := ?v9z2) rfl (by kernel_rfl) (by kernel_rfl) (by kernel_rfl) (by kernel_rfl) (fun _ _ _ h => h) (Or.inl ⟨by rfl, ?hy9z2⟩) ⟨d0,d1⟩ ?_
            case hy9z2 => intro w hSw; (try dsimp only at hSw); first | (go_simp; done) | (go_simp; with_reducible rfl)
            try simp only [Act.put, List.getElem_toArray, List.getElem_cons_zero, List.getElem_cons_succ, List.setIfInBounds_toArray, List.set_cons_zero, List.set_cons_succ]
            refine wpAnyZ_one (i := 7) (by kernel_rfl) rfl (fun K hK => ?_)
            go_simp
            go_at_call 18
            refine (aspilled_any _ h13.x).mono ?_; rintro e w14 ⟨rfl, rfl⟩
            rw [HSP.out]
            refine hK.out _ _ (fun _ => ⟨d0,d1⟩) ?_
            clear hK K
            try simp only [Act.put, List.setIfInBounds_toArray, List.set_cons_zero, List.set_cons_succ]
            refine wpAnyZ_takeN (i := 10) (v := ?v10z3) rfl (by kernel_rfl) (by kernel_rfl) (by kernel_rfl) (by kernel_rfl) (fun _ _ _ h => h) (Or.inl ⟨by rfl, ?hy10z3⟩) ⟨d0,d1⟩ ?_
            case hy10z3 => intro w hSw; (try dsimp only at hSw); first | (go_simp; done) | (go_simp; with_reducible rfl)
            try simp only [Act.put, List.getElem_toArray, List.getElem_cons_zero, List.getElem_cons_succ, List.setIfInBounds_toArray, List.set_cons_zero, List.set_cons_succ]
            refine wpAnyZ_takeN (i := 11) (v := ?v11z3) rfl (by kernel_rfl) (by kernel_rfl) (by kernel_rfl) (by kernel_rfl) (fun _ _ _ h => h) (Or.inl ⟨by rfl, ?hy11z3⟩) ⟨d0,d1⟩ ?_
            case hy11z3 => intro w hSw; (try dsimp only at hSw); first | (go_simp; done) | (go_simp; with_reducible rfl)
            try simp only [Act.put, List.getElem_toArray, List.getElem_cons_zero, List.getElem_cons_succ, List.setIfInBounds_toArray, List.set_cons_zero, List.set_cons_succ]
            refine wpAnyZ_takeN (i := 12) (v := ?v12z3) rfl (by kernel_rfl) (by kernel_rfl) (by kernel_rfl) (by kernel_rfl) (fun _ _ _ h => h) (Or.inl ⟨by rfl, ?hy12z3⟩) ⟨d0,d1⟩ ?_
            case hy12z3 => intro w hSw; (try dsimp only at hSw); first | (go_simp; done) | (go_simp; with_reducible rfl)
            try simp only [Act.put, List.getElem_toArray, List.getElem_cons_zero, List.getElem_cons_succ, List.setIfInBounds_toArray, List.set_cons_zero, List.set_cons_succ]
            refine wpAnyZ_takeN (i := 13) (v := ?v13z3) rfl (by kernel_rfl) (by kernel_rfl) (by kernel_rfl) (by kernel_rfl) (fun _ _ _ h => h) (Or.inl ⟨by rfl, ?hy13z3⟩) ⟨d0,d1⟩ ?_
            case hy13z3 => intro w hSw; (try dsimp only at hSw); first | (go_simp; done) | (go_simp; with_reducible rfl)
            try simp only [Act.put, List.getElem_toArray, List.getElem_cons_zero, List.getElem_cons_succ, List.setIfInBounds_toArray, List.set_cons_zero, List.set_cons_succ]
            refine wpAnyZ_takeN (i := 15) (v := ?v15z3) rfl (by kernel_rfl) (by kernel_rfl) (by kernel_rfl) (by kernel_rfl) (fun _ _ _ h => h) (Or.inl ⟨by rfl, ?hy15z3⟩) ⟨d0,d1⟩ ?_
            case hy15z3 => intro w hSw; (try dsimp only at hSw); first | (go_simp; done) | (go_simp; with_reducible rfl)
            try simp only [Act.put, List.getElem_toArray, List.getElem_cons_zero, List.getElem_cons_succ, List.setIfInBounds_toArray, List.set_cons_zero, List.set_cons_succ]
            refine wpAnyZ_one (i := 14) (by kernel_rfl) rfl (fun K hK => ?_)
            go_simp
            go_at_call 13
            refine (mAll_any _ h13.st).mono ?_; rintro e w16 ⟨rfl, hb16, hk16⟩
            have hr16 : MemV w16 (.slice (some ⟨w12.heap.size, 0, none⟩) mem2.length mem2.length) mem2 := by
              have := hb16.row (by have := h13.st.le; simp; unfold maxLen; omega)
              simpa using this
            have h16 := h13.kept hk16
            have g0 := h16.y.cell 0
            have g1 := h16.y.cell 26
            simp only [List.getElem?_cons_zero, List.getElem?_cons_succ] at g0 g1
            refine hK.out _ _ (fun _ => ⟨g0,g1⟩) ?_
            clear hK K
            try simp only [Act.put, List.setIfInBounds_toArray, List.set_cons_zero, List.set_cons_succ]
            refine wpAnyZ_one (i := 16) (by kernel_rfl) rfl (fun K hK => ?_)
            go_simp
            go_at_call 19
            refine (same_any _ hr16 h16.m).mono ?_; rintro e w17 ⟨rfl, hk17⟩
            rw [decide_eq_true (show mem2 = mem2 from rfl)]
            have h17 := h16.kept hk17
            have o0 := h17.y.cell 0
            have o1 := h17.y.cell 26
            simp only [List.getElem?_cons_zero, List.getElem?_cons_succ] at o0 o1
            refine hK.out _ _ (fun _ => ⟨o0,o1⟩) ?_
            clear hK K
            try simp only [Act.put, List.setIfInBounds_toArray, List.set_cons_zero, List.set_cons_succ]
            refine wpAnyZ_takeN (i := 17) (v := ?v17z4) rfl (by kernel_rfl) (by kernel_rfl) (by kernel_rfl) (by kernel_rfl) (fun _ _ _ h => h) (Or.inl ⟨by rfl, ?hy17z4⟩) ⟨o0,o1⟩ ?_
            case hy17z4 => intro w hSw; (try dsimp only at hSw); first | (go_simp; done) | (go_simp; with_reducible rfl)
            try simp only [Act.put, List.getElem_toArray, List.getElem_cons_zero, List.getElem_cons_succ, List.setIfInBounds_toArray, List.set_cons_zero, List.set_cons_succ]
            refine wpAnyZ_takeN (i := 18) (v := ?v18z4) rfl (by kernel_rfl) (by kernel_rfl) (by kernel_rfl) (by kernel_rfl) (fun _ _ _ h => h) (Or.inl ⟨by rfl, ?hy18z4⟩) ⟨o0,o1⟩ ?_
            case hy18z4 => intro w hSw; (try dsimp only at hSw); first | (go_simp; done) | (go_simp; with_reducible rfl)
            try simp only [Act.put, List.getElem_toArray, List.getElem_cons_zero, List.getElem_cons_succ, List.setIfInBounds_toArray, List.set_cons_zero, List.set_cons_succ]
            refine wpAnyZ_takeN (i := 19) (v := ?v19z4) rfl (by kernel_rfl) (by kernel_rfl) (by kernel_rfl) (by kernel_rfl) (fun _ _ _ h => h) (Or.inl ⟨by rfl, ?hy19z4⟩) ⟨o0,o1⟩ ?_
            case hy19z4 => intro w hSw; (try dsimp only at hSw); first | (go_simp; done) | (go_simp; with_reducible rfl)
            try simp only [Act.put, List.getElem_toArray, List.getElem_cons_zero, List.getElem_cons_succ, List.setIfInBounds_toArray, List.set_cons_zero, List.set_cons_succ]
            refine wpAnyZ_takeN (i := 20) (v := ?v20z4) rfl (by kernel_rfl) (by kernel_rfl) (by kernel_rfl) (by kernel_rfl) (fun _ _ _ h => h) (Or.inl ⟨by rfl, ?hy20z4⟩) ⟨o0,o1⟩ ?_
            case hy20z4 => intro w hSw; (try dsimp only at hSw); first | (go_simp; done) | (go_simp; with_reducible rfl)
            try simp only [Act.put, List.getElem_toArray, List.getElem_cons_zero, List.getElem_cons_succ, List.setIfInBounds_toArray, List.set_cons_zero, List.set_cons_succ]
            refine wpAnyZ_takeN (i := 22) (v := ?v22z4) rfl (by kernel_rfl) (by kernel_rfl) (by kernel_rfl) (by kernel_rfl) (fun _ _ _ h => h) (Or.inl ⟨by rfl, ?hy22z4⟩) ⟨o0,o1⟩ ?_
            case hy22z4 => intro w hSw; (try dsimp only at hSw); first | (go_simp; done) | (go_simp; with_reducible rfl)
            try simp only [Act.put, List.getElem_toArray, List.getElem_cons_zero, List.getElem_cons_succ, List.setIfInBounds_toArray, List.set_cons_zero, List.set_cons_succ]
            refine wpAnyZ_takeN (i := 23) (v := ?v23z4) rfl (by kernel_rfl) (by kernel_rfl) (by kernel_rfl) (by kernel_rfl) (fun _ _ _ h => h) (Or.inl ⟨by rfl, ?hy23z4⟩) ⟨o0,o1⟩ ?_
            case hy23z4 => intro w hSw; (try dsimp only at hSw); first | (go_simp; done) | (go_simp; with_reducible rfl)
            try simp only [Act.put, List.getElem_toArray, List.getElem_cons_zero, List.getElem_cons_succ, List.setIfInBounds_toArray, List.set_cons_zero, List.set_cons_succ]
            refine wpAnyZ_takeN (i := 25) (v := ?v25z4) rfl (by kernel_rfl) (by kernel_rfl) (by kernel_rfl) (by kernel_rfl) (fun _ _ _ h => h) (Or.inl ⟨by rfl, ?hy25z4⟩) ⟨o0,o1⟩ ?_
            case hy25z4 => intro w hSw; (try dsimp only at hSw); first | (go_simp; done) | (go_simp; with_reducible rfl)
            try simp only [Act.put, List.getElem_toArray, List.getElem_cons_zero, List.getElem_cons_succ, List.setIfInBounds_toArray, List.set_cons_zero, List.set_cons_succ]
            refine wpAnyZ_one (i := 21) (by kernel_rfl) rfl (fun K hK => ?_)
            go_simp
            go_at_call 15
            refine (mCount_any _ h17.st).mono ?_; rintro e w18 ⟨rfl, rfl⟩
            refine hK.out _ _ (fun _ => ⟨o0,o1⟩) ?_
            clear hK K
            try simp only [Act.put, List.setIfInBounds_toArray, List.set_cons_zero, List.set_cons_succ]
            refine wpAnyZ_takeN (i := 24) (v := ?v24z5) rfl (by kernel_rfl) (by kernel_rfl) (by kernel_rfl) (by kernel_rfl) (fun _ _ _ h => h) (Or.inl ⟨by rfl, ?hy24z5⟩) ⟨o0,o1⟩ ?_
            case hy24z5 => intro w hSw; (try dsimp only at hSw); first | (go_simp; done) | (go_simp; with_reducible rfl)
            try simp only [Act.put, List.getElem_toArray, List.getElem_cons_zero, List.getElem_cons_succ, List.setIfInBounds_toArray, List.set_cons_zero, List.set_cons_succ]
            refine wpAnyZ_takeN (i := 26) (v := ?v26z5) rfl (by kernel_rfl) (by kernel_rfl) (by kernel_rfl) (by kernel_rfl) (fun _ _ _ h => h) (Or.inl ⟨by rfl, ?hy26z5⟩) ⟨o0,o1⟩ ?_
            case hy26z5 => intro w hSw; (try dsimp only at hSw); first | (go_simp; done) | (go_simp; with_reducible rfl)
            try simp only [Act.put, List.getElem_toArray, List.getElem_cons_zero, List.getElem_cons_succ, List.setIfInBounds_toArray, List.set_cons_zero, List.set_cons_succ]
            refine wpAnyZ_takeN (i := 27) (v := ?v27z5) rfl (by kernel_rfl) (by kernel_rfl) (by kernel_rfl) (by kernel_rfl) (fun _ _ _ h => h) (Or.inl ⟨by rfl, ?hy27z5⟩) ⟨o0,o1⟩ ?_
            case hy27z5 => intro w hSw; (try dsimp only at hSw); first | (go_simp; done) | (go_simp; with_reducible rfl)
            try simp only [Act.put, List.getElem_toArray, List.getElem_cons_zero, List.getElem_cons_succ, List.setIfInBounds_toArray, List.set_cons_zero, List.set_cons_succ]
            refine wpAnyZ_done (by kernel_rfl) ?_ _
            clear d0 d1 g0 g1 o0 o1 hr16 hb16 h12 h13 h16 hz2 hwas hk16 hk17
            obtain ⟨lo, lc, hlv⟩ := h17.m.form
            obtain ⟨m2, hm2⟩ : ∃ m2, m2 = (mem2.map (Value.int .u64)).length := ⟨_, rfl⟩
            rw [← hm2] at hlv
            subst hlv
            clear hm2
            have hlen2 : mem2.length ≤ 20000 := h17.st.le
            by_cases hlp : (k : Int) < pl
            · have hlt' : k < ps.length := by have := HPL.out; omega
              obtain ⟨sb, so, cap', e, _, hc0, hc1⟩ := (HK.out w17 (hK4.trans' h17.k)).at hlt'
              have hux := (HK.out w (Below.refl _ _)).1 ps[k] (List.getElem_mem _)
              have hsb : sb < w.heap.size := by
                obtain ⟨sb', so', _, e', h0, _⟩ := (HK.out w (Below.refl _ _)).at hlt'
                simp only [Value.slice.injEq] at e e'
                have := e.1.symm.trans e'.1
                simp only [Option.some.injEq, Addr.mk.injEq] at this
                rw [this.1]; exact h0
              generalize ps[k] = q at *
              simp only [Value.slice.injEq] at e
              obtain ⟨rfl, hplx, rfl⟩ := e
              clear hplx
              obtain ⟨a, xq⟩ := q
              simp only at hc0 hc1 hux
              obtain ⟨hax, hux⟩ := hux
              have HB : Hid (∀ W, Chg (MemB bs bl) w17 W → W.cell? ⟨sb, so + k * 2 + 1, none⟩ = some (.int .u64 xq)) := fun W hc => by
                have hb7 : Below w.heap.size w17 W := hc.toBelow (Nat.le_trans hW4 h17.k.size) (fun q hq e => by rcases e with e | e <;> omega)
                rw [Below.cell hb7 hsb]; exact hc1
              clear hlt'
              by_cases ha8 : a > 5 ∧ a < 8
              · obtain ⟨ha5, ha7⟩ := ha8
                obtain ⟨tp, htp⟩ : ∃ tp, pEnd c i 0 = tp := ⟨_, rfl⟩
                have HTP : Hid (pEnd c i 0 = tp) := htp
                have htb : -1 ≤ tp ∧ tp ≤ 14000 := by rw [← htp]; exact pEnd_small Hg.out.1 i
                clear htp
                have hw1 : IntKind.i64.wrap (tp + a) = tp + a := IntWalk.i64_in _ (by omega)
                have hw2 : IntKind.i64.wrap (tp + a - 6) = tp + a - 6 := IntWalk.i64_in _ (by omega)
                go_wp2_with fail
                refine (mTop_k i w17 (hm4.below h17.k (Nat.le_refl _)) Hg.out.1).mono ?_; rintro e wt ⟨rfl, hkt⟩
                rw [HTP.out]
                have ht := h17.kept hkt
                have hc1t := HB.out wt (Chg.ofBelow hkt)
                clear h17 hc0 hc1
                go_wp2_with fail
                refine (put_any (tp + a - 6) xq _ ht.st hux).mono ?_; rintro e w19 ⟨rfl, hs19, hc19⟩
                have h19 := ht.put hs19 hc19
                have hc1' := HB.out w19 ((Chg.ofBelow hkt).trans hc19)
                clear hs19 hc19 ht
                go_wp2_with fail
                refine (putL_ref (tp + a - 6) xq w19 h19.m hlen2).mono ?_; rintro e w20 ⟨l3, rfl, hm20, hk20, hl20⟩
                have h20 := h19.putL hk20 hm20 hl20 h19.st.pos
                clear h19 hm20 hk20 hl20 hc1'
                go_wp2_with fail
                go_roundw
                case rel => exact ⟨k + 1, _, _, s2, _, _, _, _, by omega, by go_num, h20⟩
                case measure => simp [intOf]; omega
              · by_cases ha5 : a > 5
                · have ha7 : ¬ a < 8 := by omega
                  clear ha8
                  go_wp2_with fail
                  refine (put_any a xq _ h17.st hux).mono ?_; rintro e w19 ⟨rfl, hs19, hc19⟩
                  have h19 := h17.put hs19 hc19
                  have hc1' := HB.out w19 hc19
                  clear hs19 hc19 h17
                  go_wp2_with fail
                  refine (putL_ref a xq w19 h19.m hlen2).mono ?_; rintro e w20 ⟨l3, rfl, hm20, hk20, hl20⟩
                  have h20 := h19.putL hk20 hm20 hl20 h19.st.pos
                  clear h19 hm20 hk20 hl20 hc1'
                  go_wp2_with fail
                  go_roundw
                  case rel => exact ⟨k + 1, _, _, s2, _, _, _, _, by omega, by go_num, h20⟩
                  case measure => simp [intOf]; omega
                · clear ha8
                  go_wp2_with fail
                  refine (put_any a xq _ h17.st hux).mono ?_; rintro e w19 ⟨rfl, hs19, hc19⟩
                  have h19 := h17.put hs19 hc19
                  have hc1' := HB.out w19 hc19
                  clear hs19 hc19 h17
                  go_wp2_with fail
                  refine (putL_ref a xq w19 h19.m hlen2).mono ?_; rintro e w20 ⟨l3, rfl, hm20, hk20, hl20⟩
                  have h20 := h19.putL hk20 hm20 hl20 h19.st.pos
                  clear h19 hm20 hk20 hl20 hc1'
                  go_wp2_with fail
                  go_roundw
                  case rel => exact ⟨k + 1, _, _, s2, _, _, _, _, by omega, by go_num, h20⟩
                  case measure => simp [intOf]; omega
            · go_wp2_with fail
              go_roundw
              case rel => exact ⟨k + 1, _, _, s2, _, _, _, _, by omega, by go_num, h17⟩
              case measure => simp [intOf]; omega
          · obtain rfl : k = pl + 14 := by omega
            have hkw := hK4.trans' h.k
            have hk4r := h.k
            clear h
            have hmr : MapAt wr w4.heap.size bm c := hm4.below hk4r (Nat.le_refl _)
            go_wp2_with fail
            refine (ends_any i wr hmr hk4r.size Hg.out.1).mono ?_; rintro e w6 ⟨rfl, hk6⟩
            have hk46 : Kept w4 w6 := hk4r.trans' hk6
            have R1 := fun W (k : Kept w4 W) => ends13_ref (c := c) i W Hg.out.1 (HA.out W k).1
            generalize (endsOf c i).tp = e0 at *
            generalize (endsOf c i).bt = e1 at *
            generalize (endsOf c i).en = e2 at *
            generalize (endsOf c i).rm = e3 at *
            have hE0 := Blk.new w6 71 [.int .i64 e0, .int .i64 e1, .int .i64 e2, .int .i64 e3]
            have hkE : Kept w6 (w6.alloc (.cells ([.int .i64 e0, .int .i64 e1, .int .i64 e2, .int .i64 e3] : List Value).toArray 71)) := (Below.refl _ _).alloc (Nat.le_refl _) _
            go_upto_region 35 with fail
            generalize w6.alloc (.cells ([.int .i64 e0, .int .i64 e1, .int .i64 e2, .int .i64 e3] : List Value).toArray 71) = w7 at *
            obtain ⟨eb, heb⟩ : ∃ eb, eb = w6.heap.size := ⟨_, rfl⟩
            rw [← heb] at hE0 ⊢
            clear heb
            have hk47 : Kept w4 w7 := hk46.trans' hkE
            have h2 := (HA.out w7 hk47).2
            have a0 := h2.cell 0
            have a1 := h2.cell 1
            have a7 := (HCF.out w7 hk47).cell 7
            simp only [List.getElem?_cons_zero, List.getElem?_cons_succ] at a0 a1 a7
            go_wp2_with fail
            refine (R1 w7 hk47).mono ?_; rintro e w8 ⟨rfl, hk8⟩
            clear a0 a1 a7 h2
            have hE1 := hk8.blk hE0
            have hF0 := Blk.new w8 47 [.int .i64 e0, .int .i64 e1, .int .i64 e2, .int .i64 e3]
            have hkF : Kept w8 (w8.alloc (.cells ([.int .i64 e0, .int .i64 e1, .int .i64 e2, .int .i64 e3] : List Value).toArray 47)) := (Below.refl _ _).alloc (Nat.le_refl _) _
            go_upto_region 36 with fail
            generalize w8.alloc (.cells ([.int .i64 e0, .int .i64 e1, .int .i64 e2, .int .i64 e3] : List Value).toArray 47) = w9 at *
            obtain ⟨fb, hfb⟩ : ∃ fb, fb = w8.heap.size := ⟨_, rfl⟩
            rw [← hfb] at hF0 ⊢
            clear hfb
            have hE2 := hkF.blk hE1
            have hK9 : Kept w w9 := (hkw.trans' hk6).trans' ((hkE.trans' hk8).trans' hkF)
            have p0 := hE2.cell 0
            have p1 := hE2.cell 1
            have p2 := hE2.cell 2
            have p3 := hE2.cell 3
            have r0 := hF0.cell 0
            have r1 := hF0.cell 1
            have r2 := hF0.cell 2
            have r3 := hF0.cell 3
            simp only [List.getElem?_cons_zero, List.getElem?_cons_succ] at p0 p1 p2 p3 r0 r1 r2 r3
            go_wp2_with fail
            refine (addStepNil w9 _).mono ?_; rintro e wx ⟨rfl, rfl⟩
            go_wp2_with fail
            refine (addSpilledNil w9).mono ?_; rintro e wx ⟨rfl, rfl⟩
            go_wp2_with fail
            refine (addNewNil i x w9).mono ?_; rintro e w10 ⟨rfl, had, hk10⟩
            go_wp2_with fail
            refine (addStep_none w10 _ had).mono ?_; rintro e wx ⟨rfl, rfl⟩
            go_wp2_with fail
            go_ret
            exact ⟨rfl, hK9.trans' hk10⟩

end Go.Proofs.YtfbcadknimfhjaaGreat
