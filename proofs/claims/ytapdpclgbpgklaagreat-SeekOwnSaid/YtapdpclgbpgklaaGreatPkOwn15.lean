/- A marker that looks for tasks alone: its own deque, its bag, the pool: walked. -/
import Derived.Test.YtapdpclgbpgklaaGreatPkOwn
import Derived.Test.YtapdpclgbpgklaaGreatPkAw15
import Derived.Test.YtapdpclgbpgklaaGreatPkSm15
import Derived.Deep.QuietTactic
import Derived.BigQuiet
namespace Go.Proofs.YtapdpclgbpgklaaGreat
open Go.RowKit

/-- Its bag as it is now. -/
theorem skBag_any {x bm bs bl : Nat} {c : Cfg} {s : KS} {O : Nat → Prop} (w : World) (h : SkAt w x bm bs bl c s O) :
    Calls Tryz.prog 54 #[.pointer (some ⟨x, 0, none⟩)] w fun r w' => r = .returned (.agg #[.int .i64 s.bp, .int .i64 s.ba, .int .i64 s.bn]) ∧ Kept w w' := by
  obtain ⟨ev, pv, hx, _⟩ := h.ex
  have hne := hx.lt
  have hx1 := hx.alloc (.cells #[.int .i64 0, .int .i64 0, .int .i64 0] 105)
  have j4 := hx1.cell 2
  have j5 := hx1.cell 3
  have j6 := hx1.cell 4
  simp only [KS.kv, List.getElem?_cons_zero, List.getElem?_cons_succ] at j4 j5 j6
  go_enter Tryz.func54, Tryz.ntmps54
  go_wp2_with fail
  have hb2 := Blk.new w 105 [.int .i64 s.bp, .int .i64 s.ba, .int .i64 s.bn]
  have hk2 : Kept w (w.alloc (.cells (([.int .i64 s.bp, .int .i64 s.ba, .int .i64 s.bn] : List Value).toArray) 105)) := (Below.refl _ _).alloc (Nat.le_refl _) _
  have c0 := hb2.cell 0
  have c1 := hb2.cell 1
  have c2 := hb2.cell 2
  simp only [List.getElem?_cons_zero, List.getElem?_cons_succ] at c0 c1 c2
  exact bodyPost_ret (v := .agg #[.int .i64 s.bp, .int .i64 s.ba, .int .i64 s.bn]) (by simp [results, Tryz.results54, go_sem, c0, c1, c2]) rfl ⟨rfl, hk2⟩

theorem bag_same (k : Nat) (h1 : 1 ≤ k) (hk : k ≤ 4) (W : World) : (binOp .neq 105 (.agg #[.int .i64 1, .int .i64 1, .int .i64 k]) (.agg #[.int .i64 1, .int .i64 1, .int .i64 k])).run Tryz.prog W = .ok (.bool false) W := by
  obtain rfl | rfl | rfl | rfl : k = 1 ∨ k = 2 ∨ k = 3 ∨ k = 4 := by omega
  · clear h1 hk; kernel_rfl
  · clear h1 hk; kernel_rfl
  · clear h1 hk; kernel_rfl
  · clear h1 hk; kernel_rfl

theorem seventy_cells {g : Nat} (w : World) (hb : Blk w g 26 [.int .u64 70, .int .u64 71, .int .u64 72, .int .u64 73]) {k : Nat} (_hk : k ≤ 4) : ∀ i u, ((seventy k).map (Value.int .u64))[i]? = some u → w.cell? ((⟨g, 0, none⟩ : Addr).add i) = some u := by
  intro i u hu
  have h0 := hb.cell i
  unfold seventy at hu
  rw [List.map_take, List.getElem?_take] at hu
  split at hu
  · rw [show ([.int .u64 70, .int .u64 71, .int .u64 72, .int .u64 73] : List Value) = ([70, 71, 72, 73] : List Int).map (Value.int .u64) from rfl, hu] at h0
    match i, h0 with
    | 0, h0 => exact h0
    | i + 1, h0 => simpa [Addr.add] using h0
  · cases hu

theorem OwnInv.start {c : Cfg} {i : Int} {k n : Nat} {mem : List Int} (hlen : (mem.length : Int) = allI c) (hcont : Content c mem 1 (seventy k)) (hdin : DInv c i mem (tens n)) : OwnInv c i k mem n :=
  ⟨hlen, hcont, fun _ => hdin, fun h0 => by
    obtain rfl : n = 0 := by omega
    exact DInv.flat hdin⟩

theorem seventy_u (k : Nat) : ∀ x ∈ seventy k, U x := by
  intro x hx
  have := List.mem_of_mem_take hx
  simp at this
  unfold U; omega

set_option maxRecDepth 8000 in
set_option maxHeartbeats 1600000 in
theorem own15_any (c : Cfg) (i n many draw : Int) (w : World) (hi : 0 ≤ i ∧ i ≤ 255) (hn : 0 ≤ n ∧ n ≤ 255) (hmn : 0 ≤ many ∧ many ≤ 255) (_hdr : -9223372036854775808 ≤ draw ∧ draw ≤ 9223372036854775807) :
    Calls Tryz.prog 8 #[.agg #[.int .i64 c.c0, .int .i64 c.c1, .int .i64 c.c2, .int .i64 c.c3, .int .i64 c.c4, .int .i64 c.mks, .int .i64 c.mus, .int .i64 c.dq, .int .i64 c.ch, .int .i64 c.bu, .int .i64 c.ro, .int .i64 c.sw], .int .u8 i, .int .u8 n, .int .u8 many, .int .i64 draw] w fun e w' => e = .returned (.bool true) ∧ Kept w w' := by
  have hb := Blk.new w 24 [.int .i64 c.c0, .int .i64 c.c1, .int .i64 c.c2, .int .i64 c.c3, .int .i64 c.c4, .int .i64 c.mks, .int .i64 c.mus, .int .i64 c.dq, .int .i64 c.ch, .int .i64 c.bu, .int .i64 c.ro, .int .i64 c.sw]
  have hk0 : Kept w (w.alloc (.cells ([.int .i64 c.c0, .int .i64 c.c1, .int .i64 c.c2, .int .i64 c.c3, .int .i64 c.c4, .int .i64 c.mks, .int .i64 c.mus, .int .i64 c.dq, .int .i64 c.ch, .int .i64 c.bu, .int .i64 c.ro, .int .i64 c.sw] : List Value).toArray 24)) := (Below.refl _ _).alloc (Nat.le_refl _) _
  go_enter Tryz.func8, Tryz.ntmps8
  go_wp2_with fail
  generalize w.alloc (.cells ([.int .i64 c.c0, .int .i64 c.c1, .int .i64 c.c2, .int .i64 c.c3, .int .i64 c.c4, .int .i64 c.mks, .int .i64 c.mus, .int .i64 c.dq, .int .i64 c.ch, .int .i64 c.bu, .int .i64 c.ro, .int .i64 c.sw] : List Value).toArray 24) = w0 at *
  refine (awake15_any w0).mono ?_; rintro e w1 ⟨rfl, hk1⟩
  have hb1 := hk1.blk hb
  have hK1 : Kept w w1 := hk0.trans' hk1
  clear hb hk0 hk1 
  have c0 := hb1.cell 0
  have c1 := hb1.cell 1
  have c2 := hb1.cell 2
  have c3 := hb1.cell 3
  have c4 := hb1.cell 4
  have c5 := hb1.cell 5
  have c6 := hb1.cell 6
  have c7 := hb1.cell 7
  have c8 := hb1.cell 8
  have c9 := hb1.cell 9
  have c10 := hb1.cell 10
  have c11 := hb1.cell 11
  simp only [List.getElem?_cons_zero, List.getElem?_cons_succ] at c0 c1 c2 c3 c4 c5 c6 c7 c8 c9 c10 c11
  go_wp2_with fail
  refine (small15_any c w1).mono ?_; rintro e w2 ⟨⟨v, rfl, hv⟩, hk2⟩
  have HV : Hid (v = true → Good c ∧ Small c) := hv
  have hb2 := hk2.blk hb1
  have hK2 : Kept w w2 := hK1.trans' hk2
  clear hv hk2 hb1 hK1 c0 c1 c2 c3 c4 c5 c6 c7 c8 c9 c10 c11 
  cases v
  · go_wp2_with fail
    go_ret
    exact ⟨rfl, hK2⟩
  have hgs := HV.out rfl
  have Hg : Hid (Good c ∧ Small c) := hgs
  clear HV hgs
  have c0 := hb2.cell 0
  have c1 := hb2.cell 1
  have c2 := hb2.cell 2
  have c3 := hb2.cell 3
  have c4 := hb2.cell 4
  have c5 := hb2.cell 5
  have c6 := hb2.cell 6
  have c7 := hb2.cell 7
  have c8 := hb2.cell 8
  have c9 := hb2.cell 9
  have c10 := hb2.cell 10
  have c11 := hb2.cell 11
  simp only [List.getElem?_cons_zero, List.getElem?_cons_succ] at c0 c1 c2 c3 c4 c5 c6 c7 c8 c9 c10 c11
  go_wp2_with fail
  refine (new_good c w2 Hg.out.1).mono ?_; rintro e w3 ⟨bm, rfl, hm3, hk3⟩
  have hK3 : Kept w w3 := hK2.trans' hk3
  have hb3 := hk3.blk hb2
  clear c0 c1 c2 c3 c4 c5 c6 c7 c8 c9 c10 c11 hb2 hk3 hK2 
  go_wp2_with fail
  refine (first_any w3 hm3 Hg.out.1 (Nat.le_refl _)).mono ?_; rintro e w4 ⟨v4, rfl, hr4, hk4⟩
  obtain ⟨fl0, fl1, fall⟩ := first_facts Hg.out.1
  go_wp2_with fail
  refine (new_any w4 hr4 fl0 fl1 fall).mono ?_; rintro e w5 ⟨bs, bl, rfl, hs5, hbs5, hbl5, hk5⟩
  have hm5 := (hm3.kept hk4 (Nat.le_refl _)).kept hk5 hk4.size
  have hb5 := hk5.blk (hk4.blk hb3)
  have hK5 : Kept w w5 := (hK3.trans' hk4).trans' hk5
  have hB5 : w3.heap.size ≤ w5.heap.size := Nat.le_trans hk4.size hk5.size
  have hBs5 : w3.heap.size ≤ bs := Nat.le_trans hk4.size hbs5
  have hBl5 : w3.heap.size ≤ bl := Nat.le_trans hk4.size hbl5
  have hW3 : w.heap.size < w3.heap.size := hb3.lt
  clear hm3 hb3 hr4 hk4 hk5 hK3 hbs5 hbl5 fl0 fl1 fall 
  have c5 := hb5.cell 5
  have c7 := hb5.cell 7
  simp only [List.getElem?_cons_zero, List.getElem?_cons_succ] at c5 c7
  have hmk : 1 ≤ c.mks ∧ c.mks ≤ 4 := by have := Hg.out.1; unfold Good at this; omega
  have hdq : 2 ≤ c.dq ∧ c.dq ≤ 8 := by have := Hg.out.1; unfold Good at this; omega
  have hmz : ¬ c.mks = 0 := by omega
  have hdz : ¬ c.dq + 1 = 0 := by omega
  obtain ⟨me, hme⟩ : ∃ me : Int, me = i % c.mks := ⟨_, rfl⟩
  have hme0 : 0 ≤ me := by rw [hme]; exact Int.emod_nonneg _ hmz
  have hme1 : me < c.mks := by rw [hme]; exact Int.emod_lt_of_pos _ (by omega)
  have hmet : i.tmod c.mks = me := by rw [hme]; exact Int.tmod_eq_emod_of_nonneg hi.1
  obtain ⟨own, hown⟩ : ∃ own : Nat, (own : Int) = n % (c.dq + 1) := ⟨(n % (c.dq + 1)).toNat, by have := Int.emod_nonneg n hdz; omega⟩
  have hown1 : (own : Int) ≤ c.dq := by rw [hown]; have := Int.emod_lt_of_pos n (show 0 < c.dq + 1 by omega); omega
  have hownt : n.tmod (c.dq + 1) = own := by rw [hown]; exact Int.tmod_eq_emod_of_nonneg hn.1
  obtain ⟨k, hk⟩ : ∃ k : Nat, (k : Int) = many % 4 + 1 := ⟨(many % 4 + 1).toNat, by omega⟩
  have hk1 : 1 ≤ k := by omega
  have hk4 : k ≤ 4 := by omega
  have hkt : many.tmod 4 + 1 = k := by rw [hk, Int.tmod_eq_emod_of_nonneg hmn.1]
  have hmt4 : many.tmod 4 = (k : Int) - 1 := by omega
  have y1 : IntKind.i64.wrap i = i := wrap_small hi.1 (by omega)
  have y2 : IntKind.i64.wrap me = me := wrap_small hme0 (by omega)
  have y3 : IntKind.i64.wrap n = n := wrap_small hn.1 (by omega)
  have y4 : IntKind.i64.wrap (own : Int) = own := wrap_small (by omega) (by omega)
  have y5 : IntKind.i64.wrap (c.dq + 1) = c.dq + 1 := wrap_small (by omega) (by omega)
  have y6 : IntKind.u8.wrap ((k : Int) - 1) = (k : Int) - 1 := by rw [IntKind.wrap_u8]; omega
  have y7 : IntKind.i64.wrap ((k : Int) - 1) = (k : Int) - 1 := wrap_small (by omega) (by omega)
  have y8 : IntKind.i64.wrap ((k : Int) - 1 + 1) = k := by rw [Int.sub_add_cancel]; exact wrap_small (by omega) (by omega)
  obtain ⟨mem1, j1, x1, S1, e1, hinv1, hcont1, hdin1⟩ := own_put Hg.out.1 ⟨hme0, hme1⟩ hk1 hk4
  obtain ⟨mem2, s2, e2, got2, hl2, hcont2, hdin2⟩ := own_first (draw := draw) Hg.out.1 ⟨hme0, hme1⟩ hk1 hk4 hinv1 hcont1 hdin1
  have E1 : Hid (pmRun c 14 (firstL c, putM (seventy k)) = (mem1, ⟨.done, seventy k, j1, 1, x1⟩)) := e1
  have E2 : Hid (skRun c 40 (mem1, newKS c me 0 0 0 draw) = (mem2, s2)) := e2
  have G2 : Hid (Got s2 70 1 1 k) := got2
  have L2 : Hid ((mem2.length : Int) = allI c) := hl2
  have C2 : Hid (Content c mem2 1 (seventy k)) := hcont2
  have D2 : Hid (DInv c me mem2 (tens 0)) := hdin2
  clear hk hown hme e1 e2 got2 hl2 hcont2 hdin2 hinv1 hcont1 hdin1
  go_wp2_with fail
  have hb6 := Blk.new w5 26 [.int .u64 70, .int .u64 71, .int .u64 72, .int .u64 73]
  have hk6 : Kept w5 (w5.alloc (.cells ([.int .u64 70, .int .u64 71, .int .u64 72, .int .u64 73] : List Value).toArray 26)) := (Below.refl _ _).alloc (Nat.le_refl _) _
  generalize w5.alloc (.cells ([.int .u64 70, .int .u64 71, .int .u64 72, .int .u64 73] : List Value).toArray 26) = w6 at *
  have hs6 := hs5.kept hk6
  have hm6 := hm5.kept hk6 hB5
  have hbb6 := hk6.blk hb5
  have z6 := hk6.size
  have hml := manyI_bound Hg.out.1
  have hk6' := hk6
  have hb5' := hb5
  have hlt6 := hs6.lt
  clear y1 y3 y6 y7 y8 hk6 c5 c7 hb5 hm5
  have D := packPut_any (ad := ⟨w5.heap.size, 0, none⟩) (ts := seventy k) (cap := 4) w6 hs6 hm6 (by rw [seventy_len hk4]; exact hk4) (seventy_cells w6 hb6 hk4) hb6.lt (seventy_u k) (by rw [seventy_len hk4]; exact hk1) (by rw [seventy_len hk4]; omega)
  rw [seventy_len hk4, List.take_of_length_le (show (seventy k).length ≤ 4 by rw [seventy_len hk4]; exact hk4)] at D
  refine D.mono ?_; rintro e w7 ⟨b, bi, gt, rfl, hp7, hpb, hpbi, hpgt, hpgl, hk7⟩
  have hs7 := hs6.kept hk7
  have hm7 := hm6.kept hk7 (by omega)
  have hbb7 := hk7.blk hbb6
  have z7 := hk7.size
  have hB7 : Below w3.heap.size w5 w7 := (hk6'.mono hB5).trans (hk7.mono (by omega))
  clear hs6 hm6 hbb6 hb6 hk7 D hs5
  go_wp2_with fail
  go_loopw [21] (fun qv wr => ∃ (q : Nat) (bi' : Nat) (n' : Int), q ≤ 14 ∧ qv = .int .i64 q ∧ PmAt wr b bi' gt bm bs bl (pmRun c q (firstL c, putM (seventy k))).2 ∧ (bi' = bi ∨ w7.heap.size ≤ bi') ∧ StoreAt wr bs bl (pmRun c q (firstL c, putM (seventy k))).1 n' ∧ Chg (PmB b bi bs bl) w7 wr) (fun qv _ => 14 - (intOf qv).toNat)
  case atStart => exact ⟨0, bi, _, by omega, rfl, hp7, .inl rfl, hs7, Chg.refl _ _⟩
  case round =>
    obtain ⟨q, bi', n', hq, rfl, hp8, hbi8, hs8, hc8⟩ := hrel
    have hok' : PmOk (pmRun c q (firstL c, putM (seventy k))).2 := pmRun_ok (x := (firstL c, putM (seventy k))) ⟨fun _ => ⟨rfl, by rw [seventy_len hk4]; exact hk1⟩, fun e => by cases e⟩ q
    have hm8 : MapAt wr w3.heap.size bm c := hm7.below (hc8.toBelow (by omega) (fun i hi e => by rcases e with e | e | e | e <;> omega)) (Nat.le_refl _)
    by_cases hq14 : (q : Int) < 14
    · have D := pstep_all wr Hg.out.1 hp8 hs8 hm8 (Nat.lt_of_lt_of_le hpgl hc8.size) hok'
      rw [show pmStep c (pmRun c q (firstL c, putM (seventy k))).1 (pmRun c q (firstL c, putM (seventy k))).2 = pmRun c (q + 1) (firstL c, putM (seventy k)) from rfl] at D
      have HB : Hid (bi' = bi ∨ w7.heap.size ≤ bi') := hbi8
      clear hbi8
      go_wp2_with fail
      refine D.mono ?_; rintro e w8 ⟨rfl, ⟨bi2, h2', hbi2⟩, hs2, hc2⟩
      go_wp2_with fail
      go_roundw
      case rel =>
        refine ⟨q + 1, bi2, _, by omega, by go_num, h2', ?_, hs2, hc8.stepNew hc2 HB.out⟩
        have := HB.out
        have := hc8.size
        omega
      case measure => simp [intOf]; omega
    · obtain rfl : q = 14 := by omega
      rw [E1.out] at hp8 hs8
      have z8 := hc8.size
      have hB8 : Below w3.heap.size w5 wr := hB7.trans (hc8.toBelow (by omega) (fun i hi e => by rcases e with e | e | e | e <;> omega))
      have HB8 : Hid (Below w3.heap.size w5 wr) := hB8
      have hbb8 := below_blk hB8 hb5' hW3
      have lbs : bs < w6.heap.size := hlt6.1
      have lbl : bl < w6.heap.size := hlt6.2
      have hbi6 : w6.heap.size ≤ bi' := by omega
      clear hB8 hB7 hc8 hbi8 hok' hs7 hm7 hp7 hbb7 hq14 hlt6 hk6'
      generalize wr = w8 at *
      go_wp2_with fail
      refine (seekNew_any (bs := bs) (bl := bl) me 0 0 0 draw w8 Hg.out.1 hm8 (by omega) hs8.lt.1 hs8.lt.2).mono ?_; rintro e w9 ⟨x, rfl, hx9, hxx, hk9⟩
      have hs9 := hs8.kept hk9
      have hm9 := hm8.kept hk9 (by omega)
      have z9 := hk9.size
      have hp9 : PkGot w9 b 1 := (hp8.got rfl).kept hk9
      have lb8 : b < w8.heap.size := (hp8.got rfl).lt
      have hB9 : Below w3.heap.size w5 w9 := HB8.out.trans (hk9.mono (by omega))
      have HB9 : Hid (Below w3.heap.size w5 w9) := hB9
      have hbb9 := hk9.blk hbb8
      replace hx9 : SkAt w9 x bm bs bl c (skRun c 0 (mem1, newKS c me 0 0 0 draw)).2 (NewB w8 w9) := hx9
      have hO9 : ∀ q, NewB w8 w9 q → w8.heap.size ≤ q := fun q hq => hq.1
      generalize NewB w8 w9 = O9 at *
      clear hs8 hm8 hp8 hB9 hbb8 hk9 HB8
      go_wp2_with fail
      go_loopw [23] (fun qv w' => ∃ (q : Nat) (n2 : Int), q ≤ 40 ∧ qv = .int .i64 q ∧ SkAt w' x bm bs bl c (skRun c q (mem1, newKS c me 0 0 0 draw)).2 (Grow O9 w9 w') ∧ StoreAt w' bs bl (skRun c q (mem1, newKS c me 0 0 0 draw)).1 n2 ∧ Chg (OwnB O9 bs bl) w9 w') (fun qv _ => 40 - (intOf qv).toNat)
      case atStart => exact ⟨0, _, by omega, rfl, by rw [Grow.self]; exact hx9, hs9, Chg.refl _ _⟩
      case round =>
        obtain ⟨q, n2, hq, rfl, hx', hs', hc'⟩ := hrel
        have zc := hc'.size
        have hm' : MapAt wr w3.heap.size bm c := hm9.below (hc'.ownBelow (by omega) (fun q hq => by have := hO9 q hq; omega) hBs5 hBl5) (Nat.le_refl _)
        have hO' : ∀ q, Grow O9 w9 wr q → w3.heap.size ≤ q := growGe15 (fun q hq => by have := hO9 q hq; omega) (by omega)
        by_cases hq40 : (q : Int) < 40
        · have D := skstep_any wr Hg.out.1 hx' hs' hm' (by omega) hO' hBs5 hBl5
          rw [show skStep c (skRun c q (mem1, newKS c me 0 0 0 draw)).1 (skRun c q (mem1, newKS c me 0 0 0 draw)).2 = skRun c (q + 1) (mem1, newKS c me 0 0 0 draw) from rfl] at D
          clear hO'
          go_wp2_with fail
          refine D.mono ?_; rintro e w10 ⟨rfl, hx10, hs10, hc10⟩
          go_wp2_with fail
          go_roundw
          case rel =>
            have z2 := hc10.size
            exact ⟨q + 1, _, by omega, by go_num, by rw [← Grow.eq zc z2]; exact hx10, hs10, hc'.grow hc10⟩
          case measure => simp [intOf]; omega
        · obtain rfl : q = 40 := by omega
          rw [E2.out] at hx' hs'
          have hp' : PkGot wr b 1 := hp9.chg hc' (by rintro (e | e | e); have := hO9 _ e; omega; omega; omega)
          have hbb' := below_blk (hc'.ownBelow (B := w3.heap.size) (by omega) (fun q hq => by have := hO9 q hq; omega) hBs5 hBl5) hbb9 hW3
          have HB' : Hid (Below w3.heap.size w5 wr) := HB9.out.trans (hc'.ownBelow (by omega) (fun q hq => by have := hO9 q hq; omega) hBs5 hBl5)
          generalize wr = w10 at *
          have T := skTask_any w10 hx'
          rw [G2.out.found, G2.out.task] at T
          simp only [↓reduceIte] at T
          have V := skBag_any w10 hx'
          rw [G2.out.bp, G2.out.ba, G2.out.bn] at V
          have hbs := fun W => bag_same k hk1 hk4 W
          have hOx : ∀ q, Grow O9 w9 w10 q → w8.heap.size ≤ q ∧ q < w10.heap.size ∧ q ≠ bs ∧ q ≠ bl := fun q hq => ⟨growGe15 hO9 z9 q hq, hx'.own q hq⟩
          generalize Grow O9 w9 w10 = O10 at *
          clear hx9 hs9 hp9 hm9 hc' hO' hO9 hbb9 HB9 hq40
          go_wp2_with fail
          refine T.mono ?_; rintro e wx ⟨rfl, rfl⟩
          go_wp2_with fail
          refine V.mono ?_; rintro e w11 ⟨rfl, hk11⟩
          have hp11 : PkGot w11 b 1 := hp'.kept hk11
          go_wp2_with fail
          refine (ppackGot w11 hp11).mono ?_; rintro e wx ⟨rfl, rfl⟩
          have hx11 := hx'.kept hk11
          have hs11 := hs'.kept hk11
          have hm11 := hm'.kept hk11 (by omega)
          have hbb11 := hk11.blk hbb'
          have z11 := hk11.size
          have HB11 : Hid (Below w3.heap.size w5 w11) := HB'.out.trans (hk11.mono (by omega))
          have hl11 := hs11.lt
          have hOx11 : ∀ q, O10 q → q < w11.heap.size ∧ q ≠ bs ∧ q ≠ bl := fun q hq => ⟨Nat.lt_of_lt_of_le (hOx q hq).2.1 z11, (hOx q hq).2.2⟩
          clear T V hp11 hp' hx' hs' hm' hbb' hk11 HB' hOx
          go_wp2_with fail
          go_loopw [26] (fun jv wr => ∃ (j : Nat) (mem : List Int) (n' : Int), j ≤ own ∧ jv = .int .i64 j ∧ (mem.length : Int) = allI c ∧ Content c mem 1 (seventy k) ∧ DInv c me mem (tens j) ∧ StoreAt wr bs bl mem n' ∧ Chg (fun q => q = bs ∨ q = bl) w11 wr) (fun jv _ => own - (intOf jv).toNat)
          case atStart => exact ⟨0, mem2, _, by omega, rfl, L2.out, C2.out, D2.out, hs11, Chg.refl _ _⟩
          case round =>
            obtain ⟨j, mem, n', hj, rfl, hlen, hcont, hdin, hs', hc'⟩ := hrel
            have zc := hc'.size
            have hBw : Below w3.heap.size w11 wr := hc'.toBelow (by omega) (fun q _ e => by rcases e with e | e <;> omega)
            have hm' : MapAt wr w3.heap.size bm c := hm11.below hBw (Nat.le_refl _)
            generalize wr = w12 at *
            by_cases hlt : (j : Int) < own
            · obtain ⟨mem', s', ea, hlen', hcont', hdin'⟩ := own_add Hg.out.1 ⟨hme0, hme1⟩ hk4 hlen hcont hdin (by omega)
              have EA : Hid (amRun c me 14 (mem, newAM c me ((j : Int) + 10)) = (mem', s')) := ea
              have HL : Hid ((mem'.length : Int) = allI c) := hlen'
              have HC : Hid (Content c mem' 1 (seventy k)) := hcont'
              have HD : Hid (DInv c me mem' (tens (j + 1))) := hdin'
              have HCc : Hid (Chg (fun q => q = bs ∨ q = bl) w11 w12) := hc'
              have y7 : IntKind.u64.wrap (j : Int) = j := by rw [IntKind.wrap_u64]; omega
              have y8 : IntKind.u64.wrap ((j : Int) + 10) = j + 10 := by rw [IntKind.wrap_u64]; omega
              clear ea hlen hcont hdin hlen' hcont' hdin' hc' hBw
              go_wp2_with fail
              refine (addNew_any (bs := bs) (bl := bl) me ((j : Int) + 10) w12 hm' (by omega) Hg.out.1 (by unfold U; omega) hs'.lt.1 hs'.lt.2).mono ?_; rintro e w13 ⟨a, rfl, ha13, hk13⟩
              have hs13 := hs'.kept hk13
              have hm13 := hm'.kept hk13 (by omega)
              have z13 := hk13.size
              replace ha13 : AmAt w13 a bm bs bl c me (amRun c me 0 (mem, newAM c me ((j : Int) + 10))).2 (NewB w12 w13) := ha13
              have hO13 : ∀ q, NewB w12 w13 q → w12.heap.size ≤ q := fun q hq => hq.1
              generalize NewB w12 w13 = O13 at *
              clear hs' hm'
              go_wp2_with fail
              go_loopw [28] (fun qv w' => ∃ (q : Nat) (n2 : Int), q ≤ 14 ∧ qv = .int .i64 q ∧ AmAt w' a bm bs bl c me (amRun c me q (mem, newAM c me ((j : Int) + 10))).2 (Grow O13 w13 w') ∧ StoreAt w' bs bl (amRun c me q (mem, newAM c me ((j : Int) + 10))).1 n2 ∧ Chg (OwnB O13 bs bl) w13 w') (fun qv _ => 14 - (intOf qv).toNat)
              case atStart => exact ⟨0, _, by omega, rfl, by rw [Grow.self]; exact ha13, hs13, Chg.refl _ _⟩
              case round =>
                obtain ⟨q, n2, hq, rfl, ha', hs', hc'⟩ := hrel
                have zc' := hc'.size
                have hm' : MapAt wr w3.heap.size bm c := hm13.below (hc'.ownBelow (by omega) (fun q hq => by have := hO13 q hq; omega) hBs5 hBl5) (Nat.le_refl _)
                have hO' : ∀ q, Grow O13 w13 wr q → w3.heap.size ≤ q := growGe15 (fun q hq => by have := hO13 q hq; omega) (by omega)
                by_cases hq14 : (q : Int) < 14
                · have D := astep_any wr Hg.out.1 ha' hs' hm' (by omega) hO' hBs5 hBl5
                  rw [show amStep c me (amRun c me q (mem, newAM c me ((j : Int) + 10))).1 (amRun c me q (mem, newAM c me ((j : Int) + 10))).2 = amRun c me (q + 1) (mem, newAM c me ((j : Int) + 10)) from rfl] at D
                  clear hO'
                  go_wp2_with fail
                  refine D.mono ?_; rintro e w14 ⟨rfl, ha14, hs14, hc14⟩
                  go_wp2_with fail
                  go_roundw
                  case rel =>
                    have z2 := hc14.size
                    exact ⟨q + 1, _, by omega, by go_num, by rw [← Grow.eq zc' z2]; exact ha14, hs14, hc'.grow hc14⟩
                  case measure => simp [intOf]; omega
                · obtain rfl : q = 14 := by omega
                  rw [EA.out] at ha' hs'
                  have HCn : Hid (Chg (fun q => q = bs ∨ q = bl) w11 wr) := (HCc.out.trans (Chg.ofBelow hk13)).thenNew hc' (fun q hq e => by rcases e with e | e | e; have := hO13 q e; omega; exact .inl e; exact .inr e)
                  clear hO' hm' hc' ha'
                  go_wp2_with fail
                  go_roundw
                  case rel => exact ⟨j + 1, mem', _, by omega, by go_num, HL.out, HC.out, HD.out, hs', HCn.out⟩
                  case measure => simp [intOf]; omega
            · obtain rfl : j = own := by omega
              have hx12 : SkAt w12 x bm bs bl c s2 O10 := hx11.chg hc' (fun q hq e => by have := hOx11 q hq; rcases e with e | e <;> omega) (by have := hm11.cells.1; rintro (e | e) <;> omega)
              have hbb12 := below_blk hBw hbb11 hW3
              have HB12 : Hid (Below w3.heap.size w5 w12) := HB11.out.trans hBw
              have V := skBag_any w12 hx12
              rw [G2.out.bp, G2.out.ba, G2.out.bn] at V
              have HI : Hid (OwnInv c me k mem j) := OwnInv.start hlen hcont hdin
              clear hx11 hs11 hm11 hbb11 hlen hcont hdin hc' hBw HB11 hlt hOx11 hj
              go_wp2_with fail
              refine V.mono ?_; rintro e w13 ⟨rfl, hk13⟩
              have hs13 := hs'.kept hk13
              have hm13 := hm'.kept hk13 (by omega)
              have hbb13 := hk13.blk hbb12
              have z13 := hk13.size
              have HB13 : Hid (Below w3.heap.size w5 w13) := HB12.out.trans (hk13.mono (by omega))
              have hgb := Blk.new w13 105 [.int .i64 1, .int .i64 1, .int .i64 k]
              have hka : Kept w13 (w13.alloc (.cells ([.int .i64 1, .int .i64 1, .int .i64 k] : List Value).toArray 105)) := (Below.refl _ _).alloc (Nat.le_refl _) _
              clear hx12 hbb12 hs' hm' V hk13
              go_wp2_with fail
              generalize w13.alloc (.cells ([.int .i64 1, .int .i64 1, .int .i64 k] : List Value).toArray 105) = w14 at *
              have hs14 := hs13.kept hka
              have hm14 := hm13.kept hka (by omega)
              have z14 := hka.size
              have lg14 := hgb.lt
              have HB14 : Hid (Below w3.heap.size w5 w14) := HB13.out.trans (hka.mono (by omega))
              obtain ⟨gb, hgbe⟩ : ∃ gb : Nat, gb = w13.heap.size := ⟨_, rfl⟩
              rw [← hgbe] at hgb lg14 ⊢
              have lgb : w12.heap.size ≤ gb := by omega
              have ngs : gb ≠ bs := by omega
              have ngl : gb ≠ bl := by omega
              have hgb3 : w3.heap.size ≤ gb := by omega
              clear hs13 hm13 hka hbb13 HB13 hgbe
              have yk : IntKind.i64.wrap (1 - (k : Int)) = 1 - k := IntWalk.i64_in _ (by omega)
              have hk0 : (0 : Int) ≤ k := by omega
              have z5 : w3.heap.size ≤ w14.heap.size := by omega
              clear E1 E2 G2 L2 C2 D2
              go_loopw [30] (fun jv wr => ∃ (j' a n' : Int) (mem : List Int), jv = .int .i64 j' ∧ 1 - (k : Int) ≤ j' ∧ j' ≤ j ∧ a = max 1 (1 - j') ∧ Blk wr gb 105 [.int .i64 1, .int .i64 a, .int .i64 k] ∧ OwnInv c me k mem j' ∧ StoreAt wr bs bl mem n' ∧ Chg (fun q => q = bs ∨ q = bl ∨ q = gb) w14 wr) (fun jv _ => (intOf jv + k).toNat)
              case atStart => exact ⟨j, 1, _, mem, rfl, by omega, by omega, by omega, hgb, HI.out, hs14, Chg.refl _ _⟩
              case round =>
                obtain ⟨j', a, n', mem, rfl, hj0, hj1, hax, hbg, hoi, hs', hc'⟩ := hrel
                have HA : Hid (a = max 1 (1 - j')) := hax
                have zc := hc'.size
                have hBw : Below w3.heap.size w14 wr := hc'.toBelow (by omega) (fun q _ e => by rcases e with e | e | e <;> omega)
                have hm' : MapAt wr w3.heap.size bm c := hm14.below hBw (Nat.le_refl _)
                have ha1 : 1 ≤ a ∧ a ≤ 4 := by omega
                clear hax
                generalize wr = w15 at *
                have lg15 := hbg.lt
                by_cases hlt : j' > 1 - (k : Int)
                · obtain ⟨mem', s', er, hgot, hoi'⟩ := own_round (draw := draw) Hg.out.1 ⟨hme0, hme1⟩ hk1 hk4 hoi hlt (by omega)
                  rw [← HA.out] at er
                  obtain ⟨want, hwant⟩ : ∃ want : Int, (if j' ≤ 0 then 71 - j' else j' + 9) = want := ⟨_, rfl⟩
                  obtain ⟨a', ha'⟩ : ∃ a' : Int, max 1 (2 - j') = a' := ⟨_, rfl⟩
                  rw [hwant, ha'] at hgot
                  have HA' : Hid (a' = max 1 (1 - (j' - 1))) := by show a' = _; omega
                  have HW : Hid ((if j' ≤ 0 then 71 - j' else j' + 9) = want) := hwant
                  have ER : Hid (skRun c 40 (mem, newKS c me 1 a k draw) = (mem', s')) := er
                  have GT : Hid (Got s' want 1 a' k) := hgot
                  have OI : Hid (OwnInv c me k mem' (j' - 1)) := hoi'
                  have HC : Hid (Chg (fun q => q = bs ∨ q = bl ∨ q = gb) w14 w15) := hc'
                  have k0 := hbg.cell 0
                  have k1 := hbg.cell 1
                  have k2 := hbg.cell 2
                  simp only [List.getElem?_cons_zero, List.getElem?_cons_succ] at k0 k1 k2
                  clear hwant ha' er hgot hoi' hc' hBw
                  go_wp2_with fail
                  refine (seekNew_any (bs := bs) (bl := bl) me 1 a k draw w15 Hg.out.1 hm' (by omega) hs'.lt.1 hs'.lt.2).mono ?_; rintro e w16 ⟨z, rfl, hx16, hxx, hk16⟩
                  have hs16 := hs'.kept hk16
                  have hm16 := hm'.kept hk16 (by omega)
                  have z16 := hk16.size
                  have hbg16 := hk16.blk hbg
                  replace hx16 : SkAt w16 z bm bs bl c (skRun c 0 (mem, newKS c me 1 a k draw)).2 (NewB w15 w16) := hx16
                  have hO16 : ∀ q, NewB w15 w16 q → w15.heap.size ≤ q := fun q hq => hq.1
                  generalize NewB w15 w16 = O16 at *
                  clear hs' hm' hbg k0 k1 k2
                  go_wp2_with fail
                  go_loopw [32] (fun qv w' => ∃ (q : Nat) (n2 : Int), q ≤ 40 ∧ qv = .int .i64 q ∧ SkAt w' z bm bs bl c (skRun c q (mem, newKS c me 1 a k draw)).2 (Grow O16 w16 w') ∧ StoreAt w' bs bl (skRun c q (mem, newKS c me 1 a k draw)).1 n2 ∧ Chg (OwnB O16 bs bl) w16 w') (fun qv _ => 40 - (intOf qv).toNat)
                  case atStart => exact ⟨0, _, by omega, rfl, by rw [Grow.self]; exact hx16, hs16, Chg.refl _ _⟩
                  case round =>
                    obtain ⟨q, n2, hq, rfl, hx', hs', hc'⟩ := hrel
                    have zc := hc'.size
                    have hm' : MapAt wr w3.heap.size bm c := hm16.below (hc'.ownBelow (by omega) (fun q hq => by have := hO16 q hq; omega) hBs5 hBl5) (Nat.le_refl _)
                    have hO' : ∀ q, Grow O16 w16 wr q → w3.heap.size ≤ q := growGe15 (fun q hq => by have := hO16 q hq; omega) (by omega)
                    by_cases hq40 : (q : Int) < 40
                    · have D := skstep_any wr Hg.out.1 hx' hs' hm' (by omega) hO' hBs5 hBl5
                      rw [show skStep c (skRun c q (mem, newKS c me 1 a k draw)).1 (skRun c q (mem, newKS c me 1 a k draw)).2 = skRun c (q + 1) (mem, newKS c me 1 a k draw) from rfl] at D
                      clear hO'
                      go_wp2_with fail
                      refine D.mono ?_; rintro e w17 ⟨rfl, hx17, hs17, hc17⟩
                      go_wp2_with fail
                      go_roundw
                      case rel =>
                        have z2 := hc17.size
                        exact ⟨q + 1, _, by omega, by go_num, by rw [← Grow.eq zc z2]; exact hx17, hs17, hc'.grow hc17⟩
                      case measure => simp [intOf]; omega
                    · obtain rfl : q = 40 := by omega
                      rw [ER.out] at hx' hs'
                      have hbg' := hc'.blk hbg16 (by rintro (e | e | e); have := hO16 _ e; omega; omega; omega)
                      have HC1 : Hid (Chg (fun q => q = bs ∨ q = bl ∨ q = gb) w14 wr) := (HC.out.trans (Chg.ofBelow hk16)).thenNew hc' (fun q hq e => by rcases e with e | e | e; have := hO16 q e; omega; exact .inl e; exact .inr (.inl e))
                      have V := skBag_any wr hx'
                      rw [GT.out.bp, GT.out.ba, GT.out.bn] at V
                      generalize wr = w17 at *
                      have hzg : gb < w17.heap.size := hbg'.lt
                      clear hO' hm' hc' hx16 hs16 hm16 hbg16 hk16 HC ER
                      go_wp2_with fail
                      refine V.mono ?_; rintro e w18 ⟨rfl, hk18⟩
                      have hs18 := hs'.kept hk18
                      have hx18 := hx'.kept hk18
                      have hbg18 := hk18.blk hbg'
                      have HC18 : Hid (Chg (fun q => q = bs ∨ q = bl ∨ q = gb) w14 w18) := HC1.out.trans (Chg.ofBelow hk18)
                      clear V hs' hx' hbg' HC1 hk18
                      have f0 := hbg18.free 0
                      have f1 := hbg18.free 1
                      have f2 := hbg18.free 2
                      have c0 := hbg18.cell 0
                      have c1 := hbg18.cell 1
                      have c2 := hbg18.cell 2
                      simp only [List.getElem?_cons_zero, List.getElem?_cons_succ] at c0 c1 c2
                      by_cases hj0 : j' ≤ 0
                      · have yj : IntKind.i64.wrap (j' - 1) = j' - 1 := IntWalk.i64_in _ (by omega)
                        have y71 : IntKind.i64.wrap (71 - j') = 71 - j' := IntWalk.i64_in _ (by omega)
                        have u71 : IntKind.u64.wrap (71 - j') = 71 - j' := by rw [IntKind.wrap_u64]; omega
                        go_wp2_with fail
                        have hb19 := ((hbg18.set' 0 (.int .i64 1) rfl).set' 1 (.int .i64 a') rfl).set' 2 (.int .i64 k) rfl
                        have hc19 := (((Chg.refl (fun q => q = gb) w18).setCell ⟨gb, 0, none⟩ (.int .i64 1) (fun _ => rfl)).setCell ⟨gb, 1, none⟩ (.int .i64 a') (fun _ => rfl)).setCell ⟨gb, 2, none⟩ (.int .i64 k) (fun _ => rfl)
                        generalize ((w18.setCell ⟨gb, 0, none⟩ (.int .i64 1)).setCell ⟨gb, 1, none⟩ (.int .i64 a')).setCell ⟨gb, 2, none⟩ (.int .i64 k) = w19 at *
                        have hbm := hm14.cells.1
                        have hx19 := hx18.chg hc19 (fun q hq e => by have := growGe15 hO16 z16 q hq; omega) (fun e => by omega)
                        have hs19 := hs18.chg hc19 (fun e => ngs e.symm) (fun e => ngl e.symm)
                        have HC19 : Hid (Chg (fun q => q = bs ∨ q = bl ∨ q = gb) w14 w19) := HC18.out.trans (hc19.mono (fun q _ e => .inr (.inr e)))
                        have T := skTask_any w19 hx19
                        have hw := HW.out
                        rw [if_pos hj0] at hw
                        rw [GT.out.found, GT.out.task, ← hw] at T
                        simp only [↓reduceIte] at T
                        clear hx19 hx18 hs18 hbg18 hc19 HC18 f0 f1 f2 c0 c1 c2 hw
                        go_wp2_with fail
                        refine T.mono ?_; rintro e wx ⟨rfl, rfl⟩
                        go_wp2_with fail
                        go_roundw
                        case rel => exact ⟨j' - 1, a', _, mem', by go_num, by omega, by omega, HA'.out, hb19, OI.out, hs19, HC19.out⟩
                        case measure => simp [intOf]; omega
                      · have yj : IntKind.i64.wrap (j' - 1) = j' - 1 := IntWalk.i64_in _ (by omega)
                        have u1 : IntKind.u64.wrap j' = j' := by rw [IntKind.wrap_u64]; omega
                        have u9 : IntKind.u64.wrap (j' + 9) = j' + 9 := by rw [IntKind.wrap_u64]; omega
                        go_wp2_with fail
                        have hb19 := ((hbg18.set' 0 (.int .i64 1) rfl).set' 1 (.int .i64 a') rfl).set' 2 (.int .i64 k) rfl
                        have hc19 := (((Chg.refl (fun q => q = gb) w18).setCell ⟨gb, 0, none⟩ (.int .i64 1) (fun _ => rfl)).setCell ⟨gb, 1, none⟩ (.int .i64 a') (fun _ => rfl)).setCell ⟨gb, 2, none⟩ (.int .i64 k) (fun _ => rfl)
                        generalize ((w18.setCell ⟨gb, 0, none⟩ (.int .i64 1)).setCell ⟨gb, 1, none⟩ (.int .i64 a')).setCell ⟨gb, 2, none⟩ (.int .i64 k) = w19 at *
                        have hbm := hm14.cells.1
                        have hx19 := hx18.chg hc19 (fun q hq e => by have := growGe15 hO16 z16 q hq; omega) (fun e => by omega)
                        have hs19 := hs18.chg hc19 (fun e => ngs e.symm) (fun e => ngl e.symm)
                        have HC19 : Hid (Chg (fun q => q = bs ∨ q = bl ∨ q = gb) w14 w19) := HC18.out.trans (hc19.mono (fun q _ e => .inr (.inr e)))
                        have T := skTask_any w19 hx19
                        have hw := HW.out
                        rw [if_neg (show ¬ j' ≤ 0 by omega)] at hw
                        rw [GT.out.found, GT.out.task, ← hw] at T
                        simp only [↓reduceIte] at T
                        clear hx19 hx18 hs18 hbg18 hc19 HC18 f0 f1 f2 c0 c1 c2 hw
                        go_wp2_with fail
                        refine T.mono ?_; rintro e wx ⟨rfl, rfl⟩
                        go_wp2_with fail
                        go_roundw
                        case rel => exact ⟨j' - 1, a', _, mem', by go_num, by omega, by omega, HA'.out, hb19, OI.out, hs19, HC19.out⟩
                        case measure => simp [intOf]; omega
                · obtain rfl : j' = 1 - k := by omega
                  obtain rfl : a = k := by have := HA.out; omega
                  have k1 := hbg.cell 1
                  simp only [List.getElem?_cons_zero, List.getElem?_cons_succ] at k1
                  have hKr : Kept w w15 := (hK5.trans (HB14.out.mono (by omega))).trans (hBw.mono (by omega))
                  clear hs' hc' hBw hm' hoi hs14 hm14 HB14 HB12 HI
                  go_wp2_with fail
                  go_ret
                  exact ⟨rfl, hKr⟩

end Go.Proofs.YtapdpclgbpgklaaGreat
