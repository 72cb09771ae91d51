/- Nodes that are logged one at a time: walked. -/
import Derived.Test.YtapdpclgbpgklaaKeep
import Derived.Test.YtapdpclgbpgklaaLeast18
import Derived.Test.YtapdpclgbpgklaaReads
namespace Go.Proofs.Ytapdpclgbpgklaa
open Go.RowKit

/-- Which nodes are wanted. -/
def wantL (nn : Nat) (L : List Int) : List Value := (List.range (nn + 1)).map fun (i : Nat) => Value.bool (decide ((i : Int) ∈ L))

theorem wantL_len (nn : Nat) (L : List Int) : (wantL nn L).length = nn + 1 := by simp [wantL]

theorem wantL_get {nn : Nat} {L : List Int} {i : Nat} (h : i < nn + 1) : (wantL nn L)[i]? = some (.bool (decide ((i : Int) ∈ L))) := by
  simp [wantL, h]

theorem wantL_nil (nn : Nat) : wantL nn [] = (List.replicate (nn + 1) false).map Value.bool := by
  apply List.ext_getElem?
  intro i
  by_cases h : i < nn + 1
  · rw [wantL_get h]; simp [h]
  · rw [List.getElem?_eq_none (by rw [wantL_len]; omega), List.getElem?_eq_none (by simp; omega)]

theorem wantL_add {nn : Nat} {L : List Int} {r : Nat} (h : r < nn + 1) : (wantL nn L).set r (.bool true) = wantL nn (L ++ [(r : Int)]) := by
  apply List.ext_getElem?
  intro i
  by_cases hi : i < nn + 1
  · rw [wantL_get hi, List.getElem?_set]
    by_cases e : r = i
    · subst e; simp [wantL_len, h]
    · rw [if_neg e, wantL_get hi]
      have : ¬ (i : Int) = r := by omega
      simp [this]
  · rw [List.getElem?_eq_none (by simp [wantL_len]; omega), List.getElem?_eq_none (by rw [wantL_len]; omega)]

theorem wantL_del {nn : Nat} {M : List Int} {r : Nat} (h : r < nn + 1) (hn : (r : Int) ∉ M) : (wantL nn ((r : Int) :: M)).set r (.bool false) = wantL nn M := by
  apply List.ext_getElem?
  intro i
  by_cases hi : i < nn + 1
  · rw [wantL_get hi, List.getElem?_set]
    by_cases e : r = i
    · subst e; simp [wantL_len, h, hn]
    · rw [if_neg e, wantL_get hi]
      have : ¬ (i : Int) = r := by omega
      simp [this]
  · rw [List.getElem?_eq_none (by simp [wantL_len]; omega), List.getElem?_eq_none (by rw [wantL_len]; omega)]

theorem wantL_perm {nn : Nat} {L M : List Int} (h : M.Perm L) : wantL nn L = wantL nn M := by
  unfold wantL
  simp only [h.mem_iff]

theorem hiI_pair {v : Int} (h : 0 ≤ v ∧ v < 4294967296) : hiI (pairI v 0) = v ∧ loI (pairI v 0) = 0 := by unfold hiI pairI loI; omega

/-- What is held, apart. -/
theorem held_parts {nn : Nat} {L hs : List Int} (hr : ∀ v ∈ L, 1 ≤ v ∧ v ≤ (nn : Int)) (hnn : (nn : Int) < 4294967296) (hnd : L.Nodup) (h : hs.Perm (L.map fun v => pairI v 0)) :
    (hs.map hiI).Perm L ∧ (hs.map hiI).Nodup ∧ ∀ x ∈ hs, loI x = 0 ∧ 1 ≤ hiI x ∧ hiI x ≤ nn ∧ 0 ≤ x ∧ x < 18446744073709551616 := by
  have e : (L.map fun v => pairI v 0).map hiI = L := by
    rw [List.map_map]
    conv => rhs; rw [← List.map_id L]
    apply List.map_congr_left
    intro v hv
    have := hr v hv
    exact (hiI_pair ⟨by omega, by omega⟩).1
  have p1 : (hs.map hiI).Perm L := by have := h.map hiI; rwa [e] at this
  refine ⟨p1, p1.symm.nodup hnd, fun x hx => ?_⟩
  obtain ⟨v, hv, rfl⟩ := List.mem_map.1 (h.mem_iff.1 hx)
  have h1 := hr v hv
  have h2 := hiI_pair (v := v) ⟨by omega, by omega⟩
  have h3 := pairI_U v 0
  unfold U at h3
  rw [h2.1, h2.2]
  exact ⟨rfl, h1.1, h1.2, h3.1, by omega⟩

theorem info_bool : (Try.prog.info? 4).map (fun i => (i.zero, i.size, i.bytes)) = some (some (.bool false), 1, 1) := by kernel_rfl

/-- A cell of a region that stays, and what else does. -/
structure K18 (c : Cfg) (B bm bs bl bb gw : Nat) (w0 W : World) (wb : Nat) (mem ts : List Int) (nn : Nat) (L : List Int) : Prop where
  st : ∃ n, StoreAt W bs bl mem n
  mp : MapAt W B bm c
  bf : ∃ O, BfAt W bb bm bs bl (bb + 1) ts O ∧ ∀ q, O q → gw < q
  cf : Blk W wb 24 [.int .i64 c.c0, .int .i64 c.c1, .int .i64 c.c2, .int .i64 c.c3, .int .i64 c.c4, .int .i64 c.mks, .int .i64 c.mus, .int .i64 c.dq, .int .i64 c.ch, .int .i64 c.bu, .int .i64 c.ro, .int .i64 c.sw]
  wt : Blk W gw 4 (wantL nn L)
  blw : Below B w0 W
  far : B ≤ w0.heap.size ∧ B ≤ gw ∧ wb < B ∧ B ≤ bs ∧ B ≤ bl ∧ bs < gw ∧ bl < gw

theorem K18.kept {c : Cfg} {B bm bs bl bb gw : Nat} {w0 W W' : World} {wb : Nat} {mem ts : List Int} {nn : Nat} {L : List Int} (h : K18 c B bm bs bl bb gw w0 W wb mem ts nn L) (k : Kept W W') : K18 c B bm bs bl bb gw w0 W' wb mem ts nn L := by
  obtain ⟨⟨n, st⟩, mp, ⟨O, bf, hO⟩, cf, wt, b, f⟩ := h
  have z := b.size
  exact ⟨⟨n, st.kept k⟩, mp.kept k (by omega), ⟨O, bf.kept k, hO⟩, k.blk cf, k.blk wt, b.trans (k.mono (by omega)), f⟩

/-- A step of memory alone. -/
theorem K18.mem {c : Cfg} {B bm bs bl bb gw : Nat} {w0 W W' : World} {wb : Nat} {mem mem' ts : List Int} {nn : Nat} {L : List Int} {n : Int} (h : K18 c B bm bs bl bb gw w0 W wb mem ts nn L) (k : Chg (MemB bs bl) W W') (hs : StoreAt W' bs bl mem' n) : K18 c B bm bs bl bb gw w0 W' wb mem' ts nn L := by
  obtain ⟨_, mp, ⟨O, bf, hO⟩, cf, wt, b, f⟩ := h
  have z := b.size
  have kb : Below B W W' := k.toBelow (by omega) (fun q hq e => by rcases e with e | e <;> omega)
  exact ⟨⟨n, hs⟩, mp.below kb (Nat.le_refl _), ⟨O, bf.chg k (fun q hq e => by have := hO q hq; rcases e with e | e <;> omega), hO⟩, k.blk cf (fun e => by rcases e with e | e <;> omega), k.blk wt (fun e => by rcases e with e | e <;> omega), b.trans kb, f⟩

/-- A step of a machine of the buffer's. -/
theorem K18.step {c : Cfg} {B bm bs bl bb gw x : Nat} {w0 W W' : World} {wb : Nat} {mem mem' ts ts' : List Int} {nn : Nat} {L : List Int} {n : Int} {s : BS} {O O' : Nat → Prop} (h : K18 c B bm bs bl bb gw w0 W wb mem ts nn L) (k : Chg (OwnB O bs bl) W W') (hO : ∀ q, O q → gw < q) (hO' : ∀ q, O' q → gw < q) (hs : StoreAt W' bs bl mem' n) (hb : BuAt W' x bb bm bs bl (bb + 1) ts' s O') : K18 c B bm bs bl bb gw w0 W' wb mem' ts' nn L := by
  obtain ⟨_, mp, _, cf, wt, b, f⟩ := h
  have z := b.size
  have kb : Below B W W' := k.ownBelow (by omega) (fun q hq => by have := hO q hq; omega) f.2.2.2.1 f.2.2.2.2.1
  exact ⟨⟨n, hs⟩, mp.below kb (Nat.le_refl _), ⟨O', hb.buf, hO'⟩, k.blk cf (fun e => by rcases e with e | e | e; have := hO _ e; omega; omega; omega), k.blk wt (fun e => by rcases e with e | e | e; have := hO _ e; omega; omega; omega), b.trans kb, f⟩

/-- A node is wanted. -/
theorem K18.want {c : Cfg} {B bm bs bl bb gw : Nat} {w0 W : World} {wb : Nat} {mem ts : List Int} {nn : Nat} {L : List Int} (h : K18 c B bm bs bl bb gw w0 W wb mem ts nn L) (r : Nat) (v : Bool) {L' : List Int} (hr : (wantL nn L).set r (.bool v) = wantL nn L') : K18 c B bm bs bl bb gw w0 (W.setCell ⟨gw, r, none⟩ (.bool v)) wb mem ts nn L' := by
  obtain ⟨⟨n, st⟩, mp, ⟨O, bf, hO⟩, cf, wt, b, f⟩ := h
  have z := b.size
  have k : Chg (fun k => k = gw) W (W.setCell ⟨gw, r, none⟩ (.bool v)) := (Chg.refl _ _).setCell _ _ (fun _ => rfl)
  have kb : Below B W (W.setCell ⟨gw, r, none⟩ (.bool v)) := k.toBelow (by omega) (fun q hq e => by omega)
  exact ⟨⟨n, st.chg k (by omega) (by omega)⟩, mp.below kb (Nat.le_refl _), ⟨O, bf.chg k (fun q hq e => by have := hO q hq; omega), hO⟩, k.blk cf (by omega), wt.set' r _ hr, b.trans kb, f⟩

theorem kept_drewN (w : World) (k : Nat) : Kept w (w.drewN k) := ⟨rfl, rfl, rfl, Nat.le_refl _, fun _ _ => rfl⟩

set_option maxRecDepth 8000 in
set_option maxHeartbeats 12800000 in
theorem keeps18_any (c : Cfg) (v1 : Value) (zs : List Int) (v2 : Value) (ms : List Int) (w : World) (hp : Reads w v1 (zs.map (Value.int .u8))) (hz : ∀ z ∈ zs, 0 ≤ z ∧ z ≤ 255) (hq : Reads w v2 (ms.map (Value.int .u8))) (hy : ∀ z ∈ ms, 0 ≤ z ∧ z ≤ 255) :
    Calls Try.prog 4 #[.agg #[.int .i64 c.c0, .int .i64 c.c1, .int .i64 c.c2, .int .i64 c.c3, .int .i64 c.c4, .int .i64 c.mks, .int .i64 c.mus, .int .i64 c.dq, .int .i64 c.ch, .int .i64 c.bu, .int .i64 c.ro, .int .i64 c.sw], v1, v2] w fun e w' => e = .returned (.bool true) ∧ Kept w w' := by
  obtain ⟨ao1, cp1, e1⟩ := hp.form
  rw [List.length_map] at e1
  obtain ⟨ao2, cp2, e2⟩ := hq.form
  rw [List.length_map] at e2
  subst e1 e2
  have HP : Hid (Reads w (.slice ao1 zs.length cp1) (zs.map (Value.int .u8))) := hp
  have HQ : Hid (Reads w (.slice ao2 ms.length cp2) (ms.map (Value.int .u8))) := hq
  clear hp hq
  have hb := Blk.new w 24 [.int .i64 c.c0, .int .i64 c.c1, .int .i64 c.c2, .int .i64 c.c3, .int .i64 c.c4, .int .i64 c.mks, .int .i64 c.mus, .int .i64 c.dq, .int .i64 c.ch, .int .i64 c.bu, .int .i64 c.ro, .int .i64 c.sw]
  have hk0 : Kept w (w.alloc (.cells ([.int .i64 c.c0, .int .i64 c.c1, .int .i64 c.c2, .int .i64 c.c3, .int .i64 c.c4, .int .i64 c.mks, .int .i64 c.mus, .int .i64 c.dq, .int .i64 c.ch, .int .i64 c.bu, .int .i64 c.ro, .int .i64 c.sw] : List Value).toArray 24)) := (Below.refl _ _).alloc (Nat.le_refl _) _
  go_enter Try.func4, Try.ntmps4
  go_wp2_with fail
  generalize w.alloc (.cells ([.int .i64 c.c0, .int .i64 c.c1, .int .i64 c.c2, .int .i64 c.c3, .int .i64 c.c4, .int .i64 c.mks, .int .i64 c.mus, .int .i64 c.dq, .int .i64 c.ch, .int .i64 c.bu, .int .i64 c.ro, .int .i64 c.sw] : List Value).toArray 24) = w0 at *
  refine (awake18_any w0).mono ?_; rintro e w1 ⟨rfl, hk1⟩
  have hb1 := hk1.blk hb
  have hK1 : Kept w w1 := hk0.trans' hk1
  clear hb hk0 hk1 
  have c0 := hb1.cell 0
  have c1 := hb1.cell 1
  have c2 := hb1.cell 2
  have c3 := hb1.cell 3
  have c4 := hb1.cell 4
  have c5 := hb1.cell 5
  have c6 := hb1.cell 6
  have c7 := hb1.cell 7
  have c8 := hb1.cell 8
  have c9 := hb1.cell 9
  have c10 := hb1.cell 10
  have c11 := hb1.cell 11
  simp only [List.getElem?_cons_zero, List.getElem?_cons_succ] at c0 c1 c2 c3 c4 c5 c6 c7 c8 c9 c10 c11
  go_wp2_with fail
  refine (small18_any c w1).mono ?_; rintro e w2 ⟨⟨v, rfl, hv⟩, hk2⟩
  have HV : Hid (v = true → Good c ∧ Small c) := hv
  have hb2 := hk2.blk hb1
  have hK2 : Kept w w2 := hK1.trans' hk2
  clear hv hk2 hb1 hK1 c0 c1 c2 c3 c4 c5 c6 c7 c8 c9 c10 c11 
  cases v
  · go_wp2_with fail
    go_ret
    exact ⟨rfl, hK2⟩
  have hgs := HV.out rfl
  have Hg : Hid (Good c ∧ Small c) := hgs
  clear HV hgs
  by_cases h30 : (zs.length : Int) > 30
  · go_wp2_with fail
    go_ret
    exact ⟨rfl, hK2⟩
  by_cases h20 : (ms.length : Int) > 20
  · go_wp2_with fail
    go_ret
    exact ⟨rfl, hK2⟩
  have c0 := hb2.cell 0
  have c1 := hb2.cell 1
  have c2 := hb2.cell 2
  have c3 := hb2.cell 3
  have c4 := hb2.cell 4
  have c5 := hb2.cell 5
  have c6 := hb2.cell 6
  have c7 := hb2.cell 7
  have c8 := hb2.cell 8
  have c9 := hb2.cell 9
  have c10 := hb2.cell 10
  have c11 := hb2.cell 11
  simp only [List.getElem?_cons_zero, List.getElem?_cons_succ] at c0 c1 c2 c3 c4 c5 c6 c7 c8 c9 c10 c11
  go_wp2_with fail
  refine (new_good c w2 Hg.out.1).mono ?_; rintro e w3 ⟨bm, rfl, hm3, hk3⟩
  have hK3 : Kept w w3 := hK2.trans' hk3
  have hb3 := hk3.blk hb2
  clear c0 c1 c2 c3 c4 c5 c6 c7 c8 c9 c10 c11 hb2 hk3 hK2 
  go_wp2_with fail
  refine (first_any w3 hm3 Hg.out.1 (Nat.le_refl _)).mono ?_; rintro e w4 ⟨v4, rfl, hr4, hk4⟩
  obtain ⟨fl0, fl1, fall⟩ := first_facts Hg.out.1
  go_wp2_with fail
  refine (new_any w4 hr4 fl0 fl1 fall).mono ?_; rintro e w5 ⟨bs, bl, rfl, hs5, hbs5, hbl5, hk5⟩
  have hm5 := (hm3.kept hk4 (Nat.le_refl _)).kept hk5 hk4.size
  have hb5 := hk5.blk (hk4.blk hb3)
  have hK5 : Kept w w5 := (hK3.trans' hk4).trans' hk5
  have hB5 : w3.heap.size ≤ w5.heap.size := Nat.le_trans hk4.size hk5.size
  have hBs5 : w3.heap.size ≤ bs := Nat.le_trans hk4.size hbs5
  have hBl5 : w3.heap.size ≤ bl := Nat.le_trans hk4.size hbl5
  have hW3 : w.heap.size < w3.heap.size := hb3.lt
  clear hm3 hb3 hr4 hk4 hk5 hK3 hbs5 hbl5 fl0 fl1 fall 
  have hKw5 : Hid (Kept w w5) := hK5
  have hbs5 := hs5.lt
  go_wp2_with fail
  go_loopw [12] (fun kv wr => ∃ (k : Nat) (mem P S : List Int) (n' : Int), k ≤ ms.length ∧ kv = .int .i64 k ∧ KInv c mem [] P S [] ∧ StoreAt wr bs bl mem n' ∧ Below w3.heap.size w5 wr) (fun kv _ => ms.length - (intOf kv).toNat)
  case atStart => exact ⟨0, _, _, _, _, by omega, rfl, keep_first Hg.out.1, hs5, Below.refl _ _⟩
  case round =>
    obtain ⟨k, mem, P, S, n', hk, rfl, hki, hs', hbw⟩ := hrel
    have hm' := hm5.below hbw (Nat.le_refl _)
    have zr : w5.heap.size ≤ wr.heap.size := hbw.size
    have hKr : Kept w wr := hK5.trans (hbw.mono (Nat.le_of_lt hW3))
    by_cases hlt : k < ms.length
    · have hlt' : (k : Int) < ms.length := by omega
      have hk0 : (0 : Int) ≤ k := by omega
      obtain ⟨ad, cap, e, hcap, hck⟩ := (show Reads w (.slice ao2 ms.length cp2) (ms.map (Value.int .u8)) from HQ.out).get (i := k) (by simpa using hlt)
      rw [List.getElem?_map, List.getElem?_eq_getElem hlt, Option.map_some] at hck
      have hzk := hy ms[k] (List.getElem_mem _)
      obtain ⟨hzk0, hzk1⟩ := hzk
      generalize ms[k] = z at *
      simp only [List.length_map, Value.slice.injEq] at e
      obtain ⟨rfl, _, rfl⟩ := e
      have hckr : wr.cell? (ad.add k) = some (.int .u8 z) := by
        rw [Below.cell hKr (by exact lt_of_cell hck)]; exact hck
      obtain ⟨u, hu⟩ : ∃ u : Int, u = z % 16 := ⟨_, rfl⟩
      have hu0 : 0 ≤ u := by omega
      have hu1 : u < 16 := by omega
      have hut : z.tmod 16 = u := by rw [hu]; exact Int.tmod_eq_emod_of_nonneg hzk0
      have yu : IntKind.u8.wrap u = u := by rw [IntKind.wrap_u8]; omega
      have yi : IntKind.i64.wrap u = u := wrap_small hu0 (by omega)
      have HK : Hid _ := hki.mark Hg.out.1 u
      have HB : Hid _ := hbw
      clear hu hki hbw
      go_wp2_with fail
      refine (mMark_any u wr hm' Hg.out.1).mono ?_; rintro e wx ⟨rfl, rfl⟩
      go_wp2_with fail
      refine (put_any (pNode c u 2) 4 wr hs' (by unfold U; omega)).mono ?_; rintro e w6 ⟨rfl, hs6, hc6⟩
      have hb6 : Below w3.heap.size wr w6 := hc6.toBelow (by omega) (fun q hq e => by rcases e with e | e <;> omega)
      go_wp2_with fail
      go_roundw
      case rel => exact ⟨k + 1, _, P, S, _, by omega, by go_num, HK.out, hs6, HB.out.trans hb6⟩
      case measure => simp [intOf]; omega
    · obtain rfl : k = ms.length := by omega
      have HKI : Hid _ := hki
      have HB : Hid (Below w3.heap.size w5 wr) := hbw
      have hcf := below_blk hbw hb5 hW3
      clear hki hbw hs5 hm5 hb5 hK5 hlt hk
      generalize wr = w6 at *
      have hnb := nN_bound Hg.out.1
      obtain ⟨nn, hnn⟩ : ∃ nn : Nat, nN c = nn := ⟨_, rfl⟩
      rw [hnn] at hnb
      have HNN : Hid (nN c = nn) := hnn
      clear hnn
      have hbu : 1 ≤ c.bu ∧ c.bu ≤ 4 := by have := Hg.out.1; unfold Good at this; omega
      have hnz : ¬ (nn : Int) = 0 := by omega
      obtain ⟨A, hA⟩ : ∃ A : Nat, A = nn + 1 := ⟨_, rfl⟩
      have ya : IntKind.i64.wrap ((nn : Int) + 1) = (nn : Int) + 1 := wrap_small (by omega) (by omega)
      have hmk := run_make_row' (P := Try.prog) 26 4 (.bool false) 1 Try.underlying26 info_bool rfl .i64 .i64 A (by omega) (by omega) w6
      have hO : madeCells #[Value.bool false] A = (wantL nn []).toArray := by
        rw [hA, ← Array.toList_inj, toList_madeCells_one, wantL_nil]; simp
      rw [hO, show (A : Int) = (nn : Int) + 1 from by omega] at hmk
      clear hO
      have hk7 : Kept w6 (w6.alloc (.cells (wantL nn []).toArray 4)) := (Below.refl _ _).alloc (Nat.le_refl _) _
      have hg7 : Blk (w6.alloc (.cells (wantL nn []).toArray 4)) w6.heap.size 4 (wantL nn []) := Blk.new _ _ _
      generalize hw7 : w6.alloc (.cells (wantL nn []).toArray 4) = w7 at hmk hk7 hg7
      have hs7 := hs'.kept hk7
      have hm7 := hm'.kept hk7 (by omega)
      have hcf7 := hk7.blk hcf
      have hb7 : Below w3.heap.size w5 w7 := HB.out.trans (hk7.mono (by omega))
      have z7 : w6.heap.size < w7.heap.size := hg7.lt
      obtain ⟨gw, hgw⟩ : ∃ gw, gw = w6.heap.size := ⟨_, rfl⟩
      rw [← hgw] at hmk hg7 z7
      have HGW : Hid (gw = w6.heap.size) := hgw
      have hgw0 : w5.heap.size ≤ gw := by omega
      have hmn := mNodes_any w6 hm'
      clear hw7 hgw hs' hm' hcf hk7
      go_wp2_with fail
      refine hmn.mono ?_; rintro e wx ⟨rfl, rfl⟩
      rw [HNN.out]
      go_wp2_with fail
      clear hmk ya
      refine (bufNew_any (bm := bm) w7 hs7.lt.1 hs7.lt.2).mono ?_; rintro e w8 ⟨bb, rfl, hbf8, hbb, hk8⟩
      have hs8 := hs7.kept hk8
      have hm8 := hm7.kept hk8 (by omega)
      have hcf8 := hk8.blk hcf7
      have hg8 := hk8.blk hg7
      have hb8 : Below w3.heap.size w5 w8 := hb7.trans (hk8.mono (by omega))
      have hO8 : ∀ q, NewB w7 w8 q → w7.heap.size ≤ q := fun q hq => hq.1
      clear hs7 hm7 hcf7 hg7 hb7 hk8
      go_wp2_with fail
      have K8 : K18 c w3.heap.size bm bs bl bb gw w5 w8 w.heap.size mem [] nn [] := ⟨⟨_, hs8⟩, hm8, ⟨_, hbf8, fun q hq => by have := hO8 q hq; omega⟩, hcf8, hg8, hb8, ⟨hB5, by omega, hW3, hBs5, hBl5, by omega, by omega⟩⟩
      clear hs8 hm8 hbf8 hO8 hcf8 hg8 hb8
      go_loopw [14, 16] (fun nv kv wr => ∃ (k : Nat) (mem ts P S L : List Int), k ≤ zs.length ∧ kv = .int .i64 k ∧ nv = .int .i64 L.length ∧ KInv c mem ts P S L ∧ (ts.length : Int) < c.bu ∧ K18 c w3.heap.size bm bs bl bb gw w5 wr w.heap.size mem ts nn L) (fun nv kv _ => zs.length - (intOf kv).toNat)
      case atStart => exact ⟨0, mem, [], P, S, [], by omega, rfl, rfl, HKI.out, by simp; omega, K8⟩
      case round =>
        clear K8 HKI
        obtain ⟨k, mem, ts, P, S, L, hk, rfl, rfl, hki, hfew, hK⟩ := hrel
        have hLn := hki.few
        rw [HNN.out] at hLn
        obtain ⟨ln, hln⟩ : ∃ ln : Nat, L.length = ln := ⟨_, rfl⟩
        by_cases hlt : k < zs.length
        · have hlt' : (k : Int) < zs.length := by omega
          have hk0 : (0 : Int) ≤ k := by omega
          have hKr : Kept w wr := hKw5.out.trans (hK.blw.mono (Nat.le_of_lt hW3))
          obtain ⟨ad, cap, e, hcap, hck⟩ := (show Reads w (.slice ao1 zs.length cp1) (zs.map (Value.int .u8)) from HP.out).get (i := k) (by simpa using hlt)
          rw [List.getElem?_map, List.getElem?_eq_getElem hlt, Option.map_some] at hck
          have hzk := hz zs[k] (List.getElem_mem _)
          obtain ⟨hzk0, hzk1⟩ := hzk
          generalize zs[k] = z at *
          simp only [List.length_map, Value.slice.injEq] at e
          obtain ⟨rfl, _, rfl⟩ := e
          have hckr : wr.cell? (ad.add k) = some (.int .u8 z) := by
            rw [Below.cell hKr (by exact lt_of_cell hck)]; exact hck
          obtain ⟨r, hr⟩ : ∃ r : Nat, (r : Int) = z % nn := ⟨(z % nn).toNat, by have := Int.emod_nonneg z hnz; omega⟩
          have hr1 : r < nn := by have := Int.emod_lt_of_pos z (show (0 : Int) < nn by omega); omega
          have hrt : z.tmod nn = r := by rw [hr]; exact Int.tmod_eq_emod_of_nonneg hzk0
          have yz : IntKind.i64.wrap z = z := wrap_small hzk0 (by omega)
          have yr : IntKind.i64.wrap (r : Int) = r := wrap_small (by omega) (by omega)
          have yr1 : IntKind.i64.wrap ((r : Int) + 1) = r + 1 := wrap_small (by omega) (by omega)
          have yn : IntKind.i64.wrap ((ln : Int) + 1) = ln + 1 := wrap_small (by omega) (by omega)
          have hv : 1 ≤ (r : Int) + 1 ∧ (r : Int) + 1 ≤ nN c := by rw [HNN.out]; omega
          obtain ⟨P', S', hpc, hki', hfew', hmk4⟩ := keep_log Hg.out.1 hki hfew hv
          have hts : ts.length ≤ 4 := by omega
          have HPC : Hid _ := hpc
          have HKN : Hid _ := hki'
          have HFW : Hid _ := hfew'
          have HM4 : Hid _ := hmk4
          have hm' := hK.mp
          have hlm : L.length = ln := hln
          have HLM : Hid (L.length = ln) := hlm
          clear hpc hki' hfew' hmk4 hki hr hck
          rw [hln]
          go_wp2_with fail
          go_quiet ((go_at_call 14; exact Calls.quiet_of_same ((mNodes_any _ (hm'.drewN _)).mono fun _ _ h => ⟨by rw [h.1, HNN.out], h.2.symm⟩)))
          have hK1 := hK.kept (kept_drewN wr nq)
          generalize wr.drewN nq = w9 at *
          clear hckr hK hm'
          go_wp2_with fail
          refine (mMark_any ((r : Int) + 1) w9 hK1.mp Hg.out.1).mono ?_; rintro e wx ⟨rfl, rfl⟩
          go_wp2_with fail
          obtain ⟨n9, hst9⟩ := hK1.st
          refine (load_any (pNode c ((r : Int) + 1) 2) w9 hst9).mono ?_; rintro e w10 ⟨rfl, hs10, hc10⟩
          have hK10 := hK1.mem (hc10.mono (fun _ _ e => .inl e)) hs10
          clear hK1 hst9 hs10 hc10
          have hAi : (r : Int) + 1 < A := by omega
          have hrn : ((r : Int) + 1).toNat = r + 1 := by omega
          by_cases hm4 : mget mem (pNode c ((r : Int) + 1) 2) = 4
          · have HEQ : Hid _ := hm4
            clear hm4
            rw [HEQ.out]
            obtain ⟨Ob, hbfO, hOb⟩ := hK10.bf
            obtain ⟨nb, hstb⟩ := hK10.st
            have hzb := hK10.blw.size
            have hfar := hK10.far
            go_wp2_with fail
            refine (blog_any ((r : Int) + 1) 4 w10 Hg.out.1 hbfO hK10.mp (by omega) (by unfold U; omega) hstb.lt.1 hstb.lt.2).mono ?_; rintro e w12 ⟨x, rfl, hbu12, hx12, hk12⟩
            have hK12 := hK10.kept hk12
            have hs12 := hstb.kept hk12
            have hz12 : w10.heap.size ≤ w12.heap.size := hk12.size
            have hO12 : ∀ q, Grow Ob w10 w12 q → gw < q := by
              have hgl := hK10.wt.lt
              rintro q (e | e)
              · exact hOb q e
              · omega
            replace hbu12 : BuAt w12 x bb bm bs bl (bb + 1) (bsRun c 0 (mem, ts, logBS c ((r : Int) + 1) 4)).2.1 (bsRun c 0 (mem, ts, logBS c ((r : Int) + 1) 4)).2.2 (Grow Ob w10 w12) := hbu12
            replace hs12 : StoreAt w12 bs bl (bsRun c 0 (mem, ts, logBS c ((r : Int) + 1) 4)).1 nb := hs12
            generalize Grow Ob w10 w12 = O12 at *
            clear hbfO hstb hOb hk12
            go_wp2_with fail
            go_loopw [19] (fun qv wr => ∃ (q : Nat) (n' : Int), q ≤ 24 ∧ qv = .int .i64 q ∧ BuAt wr x bb bm bs bl (bb + 1) (bsRun c q (mem, ts, logBS c ((r : Int) + 1) 4)).2.1 (bsRun c q (mem, ts, logBS c ((r : Int) + 1) 4)).2.2 (Grow O12 w12 wr) ∧ StoreAt wr bs bl (bsRun c q (mem, ts, logBS c ((r : Int) + 1) 4)).1 n' ∧ Chg (OwnB O12 bs bl) w12 wr) (fun qv _ => 24 - (intOf qv).toNat)
            case atStart => exact ⟨0, nb, by omega, rfl, by rw [Grow.self]; exact hbu12, hs12, Chg.refl _ _⟩
            case round =>
              obtain ⟨q, n', hq24, rfl, h', hs', hc⟩ := hrel
              have z1 := hc.size
              have hm' : MapAt wr w3.heap.size bm c := hK12.mp.below (hc.ownBelow (by omega) (fun q hq => by have := hO12 q hq; omega) (by omega) (by omega)) (Nat.le_refl _)
              have hO' : ∀ k, Grow O12 w12 wr k → gw < k := by
                have hgl := hK12.wt.lt
                rintro k (e | e)
                · exact hO12 k e
                · omega
              have HO : Hid _ := hO'
              by_cases hq : (q : Int) < 24
              · have D := bstep_any wr Hg.out.1 h' (by have := bsRun_len c q (mem, ts, logBS c ((r : Int) + 1) 4); simp only at this; omega) hs' hm' (by omega) (fun k hk => by have := HO.out k hk; omega) (by omega) (by omega)
                rw [show bsStep c (bsRun c q (mem, ts, logBS c ((r : Int) + 1) 4)).1 (bsRun c q (mem, ts, logBS c ((r : Int) + 1) 4)).2.1 (bsRun c q (mem, ts, logBS c ((r : Int) + 1) 4)).2.2 = bsRun c (q + 1) (mem, ts, logBS c ((r : Int) + 1) 4) from rfl] at D
                clear hO'
                go_wp2_with fail
                refine D.mono ?_; rintro e w13 ⟨rfl, h2, hs2, hc2⟩
                go_wp2_with fail
                go_roundw
                case rel =>
                  have z2 := hc2.size
                  exact ⟨q + 1, _, by omega, by go_num, by rw [← Grow.eq z1 z2]; exact h2, hs2, hc.grow hc2⟩
                case measure => simp [intOf]; omega
              · obtain rfl : q = 24 := by omega
                have hKs0 := hK12.step hc hO12 hO' hs' h'
                have hgl := hKs0.wt.lt
                clear hO' hs12 hbu12 hs' hc hm' hK12
                generalize hst : bsRun c 24 (mem, ts, logBS c ((r : Int) + 1) 4) = st at *
                obtain ⟨mem', ts', sx⟩ := st
                have HPC' : Hid (sx.pc = .done) := HPC.out
                have HKN' : Hid (KInv c mem' ts' P' S' L) := by have := HKN.out; rwa [if_pos HEQ.out] at this
                have hfew' : (ts'.length : Int) < c.bu := HFW.out
                have HM4' : Hid (mget mem' (pNode c ((r : Int) + 1) 2) = 4) := HM4.out
                have hln2 : (L).length = ln := HLM.out
                have hhl := (HKN'.out.held Hg.out.1).length_eq
                rw [List.length_append, List.length_map, hln2] at hhl
                have hwk := HKN'.out.work
                rw [hln2] at hwk
                obtain ⟨tl, htl⟩ : ∃ tl : Nat, ts'.length = tl := ⟨_, rfl⟩
                obtain ⟨hl, hhl'⟩ : ∃ hl : Nat, (heldL c mem').length = hl := ⟨_, rfl⟩
                rw [htl] at hhl hfew'
                rw [hhl'] at hhl
                have HWK : Hid _ := hwk
                have HTL : Hid _ := htl
                have HHL : Hid _ := hhl'
                have hdb : decide (c.bu ≤ (tl : Int)) = false := decide_eq_false (by omega)
                have ysum : IntKind.i64.wrap ((tl : Int) + (hl : Int)) = (ln : Int) := by rw [wrap_small (by omega) (by omega)]; omega
                have yu64 : IntKind.u64.wrap ((ln : Int)) = (ln : Int) := by rw [IntKind.wrap_u64]; omega
                have hln60 : (ln : Int) ≤ 100 := by omega
                clear hhl hwk htl hhl' hq24
                have hbu13 := h'
                clear h'
                have hcf0 := hKs0.cf.cell 9
                simp only [List.getElem?_cons_zero, List.getElem?_cons_succ] at hcf0
                have hKs := hKs0.kept (kept_drewN wr 1)
                have hcfS : (wr.drewN 1).cell? ⟨w.heap.size, 9, none⟩ = some (.int .i64 c.bu) := hcf0
                go_wp2_with fail
                go_region_held3 (fun w' => w'.cell? ⟨w.heap.size, 9, none⟩ = some (.int .i64 c.bu)) (first | exact hcf0 | exact hcfS)
                  (first
                   | (go_at_call 15; refine (bstep_done _ _ (hbu13.kept (kept_drewN wr 1)) HPC'.out).mono ?_; rintro e w14 ⟨rfl, hbu14, hc14⟩
                      have hx13 := HO.out x hbu13.xin
                      obtain ⟨n14, hst14⟩ := hKs.st
                      have hKs := hKs.step (O := fun k => k = x) (hc14.mono (fun _ _ e => .inl e)) (fun q e => by omega) HO.out (hst14.chg hc14 (by omega) (by omega)) hbu14
                      have hcfS := hKs.cf.cell 9
                      simp only [List.getElem?_cons_zero, List.getElem?_cons_succ] at hcfS)
                   | (go_at_call 18; obtain ⟨Ot, hbft, _⟩ := hKs.bf; refine (btasks_any _ hbft (by have := HTL.out; omega)).mono ?_; rintro e wt ⟨vt, rfl, hrt, _, hkt⟩
                      obtain ⟨aot, capt, rfl, _⟩ := hrt.ex
                      have hKs := hKs.kept hkt
                      have hcfS := hKs.cf.cell 9
                      simp only [List.getElem?_cons_zero, List.getElem?_cons_succ] at hcfS
                      rw [List.length_map, HTL.out])
                   | (go_at_call 17; obtain ⟨na, hsta⟩ := hKs.st; refine (mAll_any _ hsta).mono ?_; rintro e wa ⟨rfl, hba, hka⟩
                      have hra := hba.row (by have := hsta.le; simp; unfold maxLen; omega)
                      rw [List.length_map] at hra
                      have hpos := hsta.pos
                      have hle := hsta.le
                      have hall := hsta.all
                      have hKs := hKs.kept hka
                      have hcfS := hKs.cf.cell 9
                      simp only [List.getElem?_cons_zero, List.getElem?_cons_succ] at hcfS)
                   | (go_at_call 16; refine (held_any _ Hg.out.1 hKs.mp (by have := hKs.blw.size; omega) hra hpos hle hall).mono ?_; rintro e wh ⟨vh, rfl, ownh, hkh⟩
                      rw [HHL.out] at ownh
                      obtain ⟨ah, ch, rfl⟩ := own_slice ownh
                      have hKs := hKs.kept hkh
                      have hcfS := hKs.cf.cell 9
                      simp only [List.getElem?_cons_zero, List.getElem?_cons_succ] at hcfS)
                   | (go_at_call 21; refine (mMark_any ((r : Int) + 1) _ hKs.mp Hg.out.1).mono ?_; rintro e wx ⟨rfl, rfl⟩)
                   | (go_at_call 22; refine (mWork_any bm _).mono ?_; rintro e wx ⟨rfl, rfl⟩)
                   | (go_at_call 20; obtain ⟨nl, hstl⟩ := hKs.st; refine (load_any _ _ hstl).mono ?_; rintro e wl ⟨rfl, hsl, hcl⟩
                      first | rw [HM4'.out] | rw [HWK.out]
                      have hKs := hKs.mem (hcl.mono (fun _ _ e => .inl e)) hsl
                      have hcfS := hKs.cf.cell 9
                      simp only [List.getElem?_cons_zero, List.getElem?_cons_succ] at hcfS))
                all_goals go_wp2_with fail
                all_goals go_roundw
                case rel => exact ⟨k + 1, mem', ts', P', S', L, by omega, by go_num, by first | (rw [hln2]; done) | (rw [hln2]; go_num), HKN'.out, by rw [HTL.out]; exact hfew', hKs⟩
                case measure => simp [intOf]; omega
          · have HNE : Hid _ := hm4
            have hne4 : (mget mem (pNode c ((r : Int) + 1) 2) != 4) = true := by simpa using hm4
            have hgc := hK10.wt.cell (r + 1)
            have hgf := hK10.wt.free (r + 1)
            rw [wantL_get (by omega)] at hgc
            have hK11 := hK10.want (r + 1) true (wantL_add (by omega))
            rw [show ((r + 1 : Nat) : Int) = (r : Int) + 1 from by omega] at hK11
            clear hm4
            go_wp2_with fail
            clear hgc hgf hne4
            generalize w10.setCell ⟨gw, r + 1, none⟩ (.bool true) = w11 at *
            obtain ⟨Ob, hbfO, hOb⟩ := hK11.bf
            obtain ⟨nb, hstb⟩ := hK11.st
            have hzb := hK11.blw.size
            have hfar := hK11.far
            go_wp2_with fail
            refine (blog_any ((r : Int) + 1) 4 w11 Hg.out.1 hbfO hK11.mp (by omega) (by unfold U; omega) hstb.lt.1 hstb.lt.2).mono ?_; rintro e w12 ⟨x, rfl, hbu12, hx12, hk12⟩
            have hK12 := hK11.kept hk12
            have hs12 := hstb.kept hk12
            have hz12 : w11.heap.size ≤ w12.heap.size := hk12.size
            have hO12 : ∀ q, Grow Ob w11 w12 q → gw < q := by
              have hgl := hK11.wt.lt
              rintro q (e | e)
              · exact hOb q e
              · omega
            replace hbu12 : BuAt w12 x bb bm bs bl (bb + 1) (bsRun c 0 (mem, ts, logBS c ((r : Int) + 1) 4)).2.1 (bsRun c 0 (mem, ts, logBS c ((r : Int) + 1) 4)).2.2 (Grow Ob w11 w12) := hbu12
            replace hs12 : StoreAt w12 bs bl (bsRun c 0 (mem, ts, logBS c ((r : Int) + 1) 4)).1 nb := hs12
            generalize Grow Ob w11 w12 = O12 at *
            clear hbfO hstb hOb hk12
            go_wp2_with fail
            go_loopw [19] (fun qv wr => ∃ (q : Nat) (n' : Int), q ≤ 24 ∧ qv = .int .i64 q ∧ BuAt wr x bb bm bs bl (bb + 1) (bsRun c q (mem, ts, logBS c ((r : Int) + 1) 4)).2.1 (bsRun c q (mem, ts, logBS c ((r : Int) + 1) 4)).2.2 (Grow O12 w12 wr) ∧ StoreAt wr bs bl (bsRun c q (mem, ts, logBS c ((r : Int) + 1) 4)).1 n' ∧ Chg (OwnB O12 bs bl) w12 wr) (fun qv _ => 24 - (intOf qv).toNat)
            case atStart => exact ⟨0, nb, by omega, rfl, by rw [Grow.self]; exact hbu12, hs12, Chg.refl _ _⟩
            case round =>
              obtain ⟨q, n', hq24, rfl, h', hs', hc⟩ := hrel
              have z1 := hc.size
              have hm' : MapAt wr w3.heap.size bm c := hK12.mp.below (hc.ownBelow (by omega) (fun q hq => by have := hO12 q hq; omega) (by omega) (by omega)) (Nat.le_refl _)
              have hO' : ∀ k, Grow O12 w12 wr k → gw < k := by
                have hgl := hK12.wt.lt
                rintro k (e | e)
                · exact hO12 k e
                · omega
              have HO : Hid _ := hO'
              by_cases hq : (q : Int) < 24
              · have D := bstep_any wr Hg.out.1 h' (by have := bsRun_len c q (mem, ts, logBS c ((r : Int) + 1) 4); simp only at this; omega) hs' hm' (by omega) (fun k hk => by have := HO.out k hk; omega) (by omega) (by omega)
                rw [show bsStep c (bsRun c q (mem, ts, logBS c ((r : Int) + 1) 4)).1 (bsRun c q (mem, ts, logBS c ((r : Int) + 1) 4)).2.1 (bsRun c q (mem, ts, logBS c ((r : Int) + 1) 4)).2.2 = bsRun c (q + 1) (mem, ts, logBS c ((r : Int) + 1) 4) from rfl] at D
                clear hO'
                go_wp2_with fail
                refine D.mono ?_; rintro e w13 ⟨rfl, h2, hs2, hc2⟩
                go_wp2_with fail
                go_roundw
                case rel =>
                  have z2 := hc2.size
                  exact ⟨q + 1, _, by omega, by go_num, by rw [← Grow.eq z1 z2]; exact h2, hs2, hc.grow hc2⟩
                case measure => simp [intOf]; omega
              · obtain rfl : q = 24 := by omega
                have hKs0 := hK12.step hc hO12 hO' hs' h'
                have hgl := hKs0.wt.lt
                clear hO' hs12 hbu12 hs' hc hm' hK12
                generalize hst : bsRun c 24 (mem, ts, logBS c ((r : Int) + 1) 4) = st at *
                obtain ⟨mem', ts', sx⟩ := st
                have HPC' : Hid (sx.pc = .done) := HPC.out
                have HKN' : Hid (KInv c mem' ts' P' S' (L ++ [(r : Int) + 1])) := by have := HKN.out; rwa [if_neg HNE.out] at this
                have hfew' : (ts'.length : Int) < c.bu := HFW.out
                have HM4' : Hid (mget mem' (pNode c ((r : Int) + 1) 2) = 4) := HM4.out
                have hln2 : ((L ++ [(r : Int) + 1])).length = ln + 1 := by simp; exact HLM.out
                have hhl := (HKN'.out.held Hg.out.1).length_eq
                rw [List.length_append, List.length_map, hln2] at hhl
                have hwk := HKN'.out.work
                rw [hln2] at hwk
                obtain ⟨tl, htl⟩ : ∃ tl : Nat, ts'.length = tl := ⟨_, rfl⟩
                obtain ⟨hl, hhl'⟩ : ∃ hl : Nat, (heldL c mem').length = hl := ⟨_, rfl⟩
                rw [htl] at hhl hfew'
                rw [hhl'] at hhl
                have HWK : Hid _ := hwk
                have HTL : Hid _ := htl
                have HHL : Hid _ := hhl'
                have hdb : decide (c.bu ≤ (tl : Int)) = false := decide_eq_false (by omega)
                have ysum : IntKind.i64.wrap ((tl : Int) + (hl : Int)) = ((ln : Int) + 1) := by rw [wrap_small (by omega) (by omega)]; omega
                have yu64 : IntKind.u64.wrap (((ln : Int) + 1)) = ((ln : Int) + 1) := by rw [IntKind.wrap_u64]; omega
                have hln60 : (ln + 1 : Int) ≤ 100 := by omega
                clear hhl hwk htl hhl' hq24
                have hbu13 := h'
                clear h'
                have hcf0 := hKs0.cf.cell 9
                simp only [List.getElem?_cons_zero, List.getElem?_cons_succ] at hcf0
                have hKs := hKs0.kept (kept_drewN wr 1)
                have hcfS : (wr.drewN 1).cell? ⟨w.heap.size, 9, none⟩ = some (.int .i64 c.bu) := hcf0
                go_wp2_with fail
                go_region_held3 (fun w' => w'.cell? ⟨w.heap.size, 9, none⟩ = some (.int .i64 c.bu)) (first | exact hcf0 | exact hcfS)
                  (first
                   | (go_at_call 15; refine (bstep_done _ _ (hbu13.kept (kept_drewN wr 1)) HPC'.out).mono ?_; rintro e w14 ⟨rfl, hbu14, hc14⟩
                      have hx13 := HO.out x hbu13.xin
                      obtain ⟨n14, hst14⟩ := hKs.st
                      have hKs := hKs.step (O := fun k => k = x) (hc14.mono (fun _ _ e => .inl e)) (fun q e => by omega) HO.out (hst14.chg hc14 (by omega) (by omega)) hbu14
                      have hcfS := hKs.cf.cell 9
                      simp only [List.getElem?_cons_zero, List.getElem?_cons_succ] at hcfS)
                   | (go_at_call 18; obtain ⟨Ot, hbft, _⟩ := hKs.bf; refine (btasks_any _ hbft (by have := HTL.out; omega)).mono ?_; rintro e wt ⟨vt, rfl, hrt, _, hkt⟩
                      obtain ⟨aot, capt, rfl, _⟩ := hrt.ex
                      have hKs := hKs.kept hkt
                      have hcfS := hKs.cf.cell 9
                      simp only [List.getElem?_cons_zero, List.getElem?_cons_succ] at hcfS
                      rw [List.length_map, HTL.out])
                   | (go_at_call 17; obtain ⟨na, hsta⟩ := hKs.st; refine (mAll_any _ hsta).mono ?_; rintro e wa ⟨rfl, hba, hka⟩
                      have hra := hba.row (by have := hsta.le; simp; unfold maxLen; omega)
                      rw [List.length_map] at hra
                      have hpos := hsta.pos
                      have hle := hsta.le
                      have hall := hsta.all
                      have hKs := hKs.kept hka
                      have hcfS := hKs.cf.cell 9
                      simp only [List.getElem?_cons_zero, List.getElem?_cons_succ] at hcfS)
                   | (go_at_call 16; refine (held_any _ Hg.out.1 hKs.mp (by have := hKs.blw.size; omega) hra hpos hle hall).mono ?_; rintro e wh ⟨vh, rfl, ownh, hkh⟩
                      rw [HHL.out] at ownh
                      obtain ⟨ah, ch, rfl⟩ := own_slice ownh
                      have hKs := hKs.kept hkh
                      have hcfS := hKs.cf.cell 9
                      simp only [List.getElem?_cons_zero, List.getElem?_cons_succ] at hcfS)
                   | (go_at_call 21; refine (mMark_any ((r : Int) + 1) _ hKs.mp Hg.out.1).mono ?_; rintro e wx ⟨rfl, rfl⟩)
                   | (go_at_call 22; refine (mWork_any bm _).mono ?_; rintro e wx ⟨rfl, rfl⟩)
                   | (go_at_call 20; obtain ⟨nl, hstl⟩ := hKs.st; refine (load_any _ _ hstl).mono ?_; rintro e wl ⟨rfl, hsl, hcl⟩
                      first | rw [HM4'.out] | rw [HWK.out]
                      have hKs := hKs.mem (hcl.mono (fun _ _ e => .inl e)) hsl
                      have hcfS := hKs.cf.cell 9
                      simp only [List.getElem?_cons_zero, List.getElem?_cons_succ] at hcfS))
                all_goals go_wp2_with fail
                all_goals go_roundw
                case rel => exact ⟨k + 1, mem', ts', P', S', (L ++ [(r : Int) + 1]), by omega, by go_num, by first | (rw [hln2]; done) | (rw [hln2]; go_num), HKN'.out, by rw [HTL.out]; exact hfew', hKs⟩
                case measure => simp [intOf]; omega
        · obtain rfl : k = zs.length := by omega
          generalize wr = w9 at *
          obtain ⟨Ob, hbfO, hOb⟩ := hK.bf
          obtain ⟨nb, hstb⟩ := hK.st
          have hzb := hK.blw.size
          have hfar := hK.far
          obtain ⟨P', S', _, hts0, hki'⟩ := keep_flush Hg.out.1 hki hfew
          have hts : ts.length ≤ 4 := by omega
          have HT0 : Hid _ := hts0
          have HKN : Hid _ := hki'
          have HLM : Hid (L.length = ln) := hln
          have hmp := hK.mp
          clear hts0 hki' hki hlt hk
          rw [hln]
          go_wp2_with fail
          refine (bflush_any w9 hbfO (by omega) hstb hmp (by omega)).mono ?_; rintro e w12 ⟨x, rfl, hbu12, hx12, hk12⟩
          have hK12 := hK.kept hk12
          have hs12 := hstb.kept hk12
          have hz12 : w9.heap.size ≤ w12.heap.size := hk12.size
          have hO12 : ∀ q, Grow Ob w9 w12 q → gw < q := by
            have hgl := hK.wt.lt
            rintro q (e | e)
            · exact hOb q e
            · omega
          replace hbu12 : BuAt w12 x bb bm bs bl (bb + 1) (bsRun c 0 (mem, ts, flushBS ts)).2.1 (bsRun c 0 (mem, ts, flushBS ts)).2.2 (Grow Ob w9 w12) := hbu12
          replace hs12 : StoreAt w12 bs bl (bsRun c 0 (mem, ts, flushBS ts)).1 nb := hs12
          generalize Grow Ob w9 w12 = O12 at *
          clear hbfO hstb hOb hk12 hmp hK
          go_wp2_with fail
          go_loopw [21] (fun qv wr => ∃ (q : Nat) (n' : Int), q ≤ 24 ∧ qv = .int .i64 q ∧ BuAt wr x bb bm bs bl (bb + 1) (bsRun c q (mem, ts, flushBS ts)).2.1 (bsRun c q (mem, ts, flushBS ts)).2.2 (Grow O12 w12 wr) ∧ StoreAt wr bs bl (bsRun c q (mem, ts, flushBS ts)).1 n' ∧ Chg (OwnB O12 bs bl) w12 wr) (fun qv _ => 24 - (intOf qv).toNat)
          case atStart => exact ⟨0, nb, by omega, rfl, by rw [Grow.self]; exact hbu12, hs12, Chg.refl _ _⟩
          case round =>
            obtain ⟨q, n', hq24, rfl, h', hs', hc⟩ := hrel
            have z1 := hc.size
            have hm' : MapAt wr w3.heap.size bm c := hK12.mp.below (hc.ownBelow (by omega) (fun q hq => by have := hO12 q hq; omega) (by omega) (by omega)) (Nat.le_refl _)
            have hO' : ∀ k, Grow O12 w12 wr k → gw < k := by
              have hgl := hK12.wt.lt
              rintro k (e | e)
              · exact hO12 k e
              · omega
            have HO : Hid _ := hO'
            by_cases hq : (q : Int) < 24
            · have D := bstep_any wr Hg.out.1 h' (by have := bsRun_len c q (mem, ts, flushBS ts); simp only at this; omega) hs' hm' (by omega) (fun k hk => by have := HO.out k hk; omega) (by omega) (by omega)
              rw [show bsStep c (bsRun c q (mem, ts, flushBS ts)).1 (bsRun c q (mem, ts, flushBS ts)).2.1 (bsRun c q (mem, ts, flushBS ts)).2.2 = bsRun c (q + 1) (mem, ts, flushBS ts) from rfl] at D
              clear hO'
              go_wp2_with fail
              refine D.mono ?_; rintro e w13 ⟨rfl, h2, hs2, hc2⟩
              go_wp2_with fail
              go_roundw
              case rel =>
                have z2 := hc2.size
                exact ⟨q + 1, _, by omega, by go_num, by rw [← Grow.eq z1 z2]; exact h2, hs2, hc.grow hc2⟩
              case measure => simp [intOf]; omega
            · obtain rfl : q = 24 := by omega
              have hKs := hK12.step hc hO12 hO' hs' h'
              have hgl := hKs.wt.lt
              clear hO' hs12 hbu12 hs' hc hm' hK12 h'
              generalize hst : bsRun c 24 (mem, ts, flushBS ts) = st at *
              obtain ⟨mem', ts', sx⟩ := st
              have ht0 : ts' = [] := HT0.out
              subst ht0
              have hkn : KInv c mem' [] P' S' L := HKN.out
              have hperm := hkn.held Hg.out.1
              rw [List.append_nil] at hperm
              have hhl : (heldL c mem').length = ln := by rw [hperm.length_eq, List.length_map]; exact HLM.out
              obtain ⟨hpm, hpn, hpx⟩ := held_parts (nn := nn) (fun v hv => by have := hkn.rng v hv; rw [HNN.out] at this; exact this) (by omega) hkn.nd hperm
              have HHL : Hid _ := hhl
              have HPM : Hid _ := hpm
              have HPN : Hid _ := hpn
              have HPX : Hid _ := hpx
              clear hkn hperm hhl hpm hpn hpx HT0 HKN HO hst hq24
              generalize wr = w13 at *
              go_wp2_with fail
              obtain ⟨na, hsta⟩ := hKs.st; refine (mAll_any _ hsta).mono ?_; rintro e wa ⟨rfl, hba, hka⟩
              have hra := hba.row (by have := hsta.le; simp; unfold maxLen; omega)
              rw [List.length_map] at hra
              have hpos := hsta.pos
              have hle := hsta.le
              have hall := hsta.all
              have hKt := hKs.kept hka
              clear hKs hsta hba
              go_wp2_with fail
              have hza : w3.heap.size ≤ wa.heap.size := by have := hKt.blw.size; omega
              have hgla := hKt.wt.lt
              refine (held_any wa Hg.out.1 hKt.mp hza hra hpos hle hall).mono ?_; rintro e wh ⟨vh, rfl, ownh, hkh⟩
              generalize heldL c mem' = hh at *
              rw [HHL.out] at ownh
              obtain ⟨ah, ch, rfl⟩ := own_slice ownh
              have hKh := hKt.kept hkh
              clear hKt hra hpos hle hall hka
              obtain ⟨Ot, hbft, _⟩ := hKh.bf
              go_wp2_with fail
              refine (btasks_any _ hbft (by simp)).mono ?_; rintro e wt ⟨vt, rfl, hrt, _, hkt⟩
              obtain ⟨aot, capt, rfl, _⟩ := hrt.ex
              have hKq := hKh.kept hkt
              have ownq := ownsRow_kept ownh hkt
              have hglt := hkh.size
              clear hKh ownh hbft hrt
              simp only [List.map_nil, List.length_nil]
              go_wp2_with fail
              have hwq := hKq.wt
              rw [wantL_perm HPM.out] at hwq
              have hbq := hKq.blw
              clear hKq
              go_loopw [23] (fun kv wr => ∃ k : Nat, k ≤ ln ∧ kv = .int .i64 k ∧ Blk wr gw 4 (wantL nn ((hh.drop k).map hiI)) ∧ wr.ownsRow wa.heap.size 45 1 (.slice ah ln ch) ln (hh.map (Value.int .u64)) ∧ Below w3.heap.size w5 wr) (fun kv _ => ln - (intOf kv).toNat)
              case atStart => exact ⟨0, by omega, rfl, by rw [List.drop_zero]; exact hwq, ownq, hbq⟩
              case round =>
                clear hwq ownq hbq
                obtain ⟨k, hk, rfl, hwt, own, hbw⟩ := hrel
                by_cases hlt : k < ln
                · have hlt' : (k : Int) < ln := by omega
                  have hkh : k < hh.length := by rw [HHL.out]; exact hlt
                  obtain ⟨gh, rfl, hck⟩ := own_cell own (k := k) (by simpa using hkh)
                  have hgh := ownsRow_base own gh rfl
                  rw [List.getElem?_map, List.getElem?_eq_getElem hkh, Option.map_some] at hck
                  have hx := HPX.out hh[k] (List.getElem_mem _)
                  have hdrop : (hh.drop k).map hiI = hiI hh[k] :: (hh.drop (k + 1)).map hiI := by rw [List.drop_eq_getElem_cons hkh, List.map_cons]
                  have hnd : ((hh.drop k).map hiI).Nodup := by rw [List.map_drop]; exact HPN.out.sublist (List.drop_sublist _ _)
                  rw [hdrop] at hwt hnd
                  rw [List.nodup_cons] at hnd
                  have hnot := hnd.1
                  generalize hh[k] = x at *
                  obtain ⟨hx0, hx1, hx2, hx3, hx4⟩ := hx
                  have hsp := fun W => split_any x W hx3 hx4
                  rw [hx0] at hsp
                  obtain ⟨r, hr⟩ : ∃ r : Nat, hiI x = r := ⟨(hiI x).toNat, by omega⟩
                  rw [hr] at hwt hnot hx1 hx2 hsp
                  have HNT : Hid _ := hnot
                  have yr : IntKind.i64.wrap (r : Int) = r := wrap_small (by omega) (by omega)
                  have hAi : (r : Int) < A := by omega
                  clear hr hdrop hnd hx0 hx3 hx4 hnot
                  go_wp2_with fail
                  refine (hsp wr).mono ?_; rintro e wx ⟨rfl, ns, rfl⟩
                  have hkd := kept_drewN wr ns
                  have hwt2 := hkd.blk hwt
                  have own2 := ownsRow_kept own hkd
                  have hbw2 := hbw.trans (hkd.mono (show w3.heap.size ≤ wr.heap.size by have := hbw.size; omega))
                  generalize wr.drewN ns = w14 at *
                  have hgc := hwt2.cell r
                  have hgf := hwt2.free r
                  rw [wantL_get (by omega)] at hgc
                  rw [decide_eq_true (show (r : Int) ∈ (r : Int) :: (hh.drop (k + 1)).map hiI by simp)] at hgc
                  clear hsp hwt own hbw hck
                  go_wp2_with fail
                  have hset : Blk (w14.setCell ⟨gw, r, none⟩ (.bool false)) gw 4 (wantL nn ((hh.drop (k + 1)).map hiI)) := by
                    have := hwt2.set' r (.bool false) rfl
                    rwa [wantL_del (by omega) HNT.out] at this
                  have hcs : Chg (fun q => q = gw) w14 (w14.setCell ⟨gw, r, none⟩ (.bool false)) := (Chg.refl _ w14).setCell _ _ (fun _ => rfl)
                  have own3 := ownsRow_chg own2 hcs (fun g e => by have := ownsRow_base own2 g e; omega)
                  have hbw3 := hbw2.trans (hcs.toBelow (by have := hbw2.size; omega) (fun q hq e => by omega))
                  go_roundw
                  case rel => exact ⟨k + 1, by omega, by go_num, hset, own3, hbw3⟩
                  case measure => simp [intOf]; omega
                · obtain rfl : k = ln := by omega
                  go_wp2_with fail
                  go_ret
                  exact ⟨rfl, hKw5.out.trans (hbw.mono (Nat.le_of_lt hW3))⟩

end Go.Proofs.Ytapdpclgbpgklaa
