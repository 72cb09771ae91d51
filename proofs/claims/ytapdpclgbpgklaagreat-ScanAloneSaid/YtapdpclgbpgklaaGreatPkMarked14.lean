/- Whoever else marks nodes: a task is done, walked. -/
import Derived.Test.YtapdpclgbpgklaaGreatPkMk2
import Derived.Test.YtapdpclgbpgklaaGreatPkPieces14
namespace Go.Proofs.YtapdpclgbpgklaaGreat
open Go.RowKit

theorem ev_kind (k a b d e : Int) (W : World) : (Instr.field 61 (.agg #[.int .i64 k, .int .i64 a, .int .i64 b, .int .i64 d, .int .i64 e]) 0).run Tryz.prog W = .ok (.int .i64 k) W := by kernel_rfl

theorem ev_a (k a b d e : Int) (W : World) : (Instr.field 61 (.agg #[.int .i64 k, .int .i64 a, .int .i64 b, .int .i64 d, .int .i64 e]) 2).run Tryz.prog W = .ok (.int .i64 b) W := by kernel_rfl

set_option maxRecDepth 8000 in
set_option maxHeartbeats 6400000 in
theorem marked14_any (c : Cfg) (v : Int) (v1 : Value) (fs : List Int) (v2 : Value) (zs : List Int) (w : World) (hv : 0 ≤ v ∧ v ≤ 255) (hp : Reads w v1 (fs.map (Value.int .u64))) (hz : ∀ z ∈ fs, U z) (hp2 : Reads w v2 (zs.map (Value.int .u8))) (hz2 : ∀ z ∈ zs, 0 ≤ z ∧ z ≤ 255) :
    Calls Tryz.prog 5 #[.agg #[.int .i64 c.c0, .int .i64 c.c1, .int .i64 c.c2, .int .i64 c.c3, .int .i64 c.c4, .int .i64 c.mks, .int .i64 c.mus, .int .i64 c.dq, .int .i64 c.ch, .int .i64 c.bu, .int .i64 c.ro, .int .i64 c.sw], .int .u8 v, v1, v2] w fun e w' => e = .returned (.bool true) ∧ Kept w w' := by
  obtain ⟨ao1, cp1, e1⟩ := hp.form
  rw [List.length_map] at e1
  subst e1
  obtain ⟨fl, hfl⟩ : ∃ fl : Nat, fs.length = fl := ⟨_, rfl⟩
  have HP : Hid (Reads w (.slice ao1 fs.length cp1) (fs.map (Value.int .u64))) := hp
  rw [hfl]
  have HFL : Hid (fs.length = fl) := hfl
  clear hp hfl
  obtain ⟨ao2, cp2, e2⟩ := hp2.form
  rw [List.length_map] at e2
  subst e2
  obtain ⟨zl, hzl⟩ : ∃ zl : Nat, zs.length = zl := ⟨_, rfl⟩
  have HP2 : Hid (Reads w (.slice ao2 zs.length cp2) (zs.map (Value.int .u8))) := hp2
  rw [hzl]
  have HZL : Hid (zs.length = zl) := hzl
  clear hp2 hzl
  have hb := Blk.new w 24 [.int .i64 c.c0, .int .i64 c.c1, .int .i64 c.c2, .int .i64 c.c3, .int .i64 c.c4, .int .i64 c.mks, .int .i64 c.mus, .int .i64 c.dq, .int .i64 c.ch, .int .i64 c.bu, .int .i64 c.ro, .int .i64 c.sw]
  have hk0 : Kept w (w.alloc (.cells ([.int .i64 c.c0, .int .i64 c.c1, .int .i64 c.c2, .int .i64 c.c3, .int .i64 c.c4, .int .i64 c.mks, .int .i64 c.mus, .int .i64 c.dq, .int .i64 c.ch, .int .i64 c.bu, .int .i64 c.ro, .int .i64 c.sw] : List Value).toArray 24)) := (Below.refl _ _).alloc (Nat.le_refl _) _
  go_enter Tryz.func5, Tryz.ntmps5
  go_wp2_with fail
  generalize w.alloc (.cells ([.int .i64 c.c0, .int .i64 c.c1, .int .i64 c.c2, .int .i64 c.c3, .int .i64 c.c4, .int .i64 c.mks, .int .i64 c.mus, .int .i64 c.dq, .int .i64 c.ch, .int .i64 c.bu, .int .i64 c.ro, .int .i64 c.sw] : List Value).toArray 24) = w0 at *
  refine (awake14_any w0).mono ?_; rintro e w1 ⟨rfl, hk1⟩
  have hb1 := hk1.blk hb
  have hK1 : Kept w w1 := hk0.trans' hk1
  clear hb hk0 hk1 
  have c0 := hb1.cell 0
  have c1 := hb1.cell 1
  have c2 := hb1.cell 2
  have c3 := hb1.cell 3
  have c4 := hb1.cell 4
  have c5 := hb1.cell 5
  have c6 := hb1.cell 6
  have c7 := hb1.cell 7
  have c8 := hb1.cell 8
  have c9 := hb1.cell 9
  have c10 := hb1.cell 10
  have c11 := hb1.cell 11
  simp only [List.getElem?_cons_zero, List.getElem?_cons_succ] at c0 c1 c2 c3 c4 c5 c6 c7 c8 c9 c10 c11
  go_wp2_with fail
  refine (small14_any c w1).mono ?_; rintro e w2 ⟨⟨v, rfl, hv⟩, hk2⟩
  have HV : Hid (v = true → Good c ∧ Small c) := hv
  have hb2 := hk2.blk hb1
  have hK2 : Kept w w2 := hK1.trans' hk2
  clear hv hk2 hb1 hK1 c0 c1 c2 c3 c4 c5 c6 c7 c8 c9 c10 c11 
  cases v
  · go_wp2_with fail
    go_ret
    exact ⟨rfl, hK2⟩
  have hgs := HV.out rfl
  have Hg : Hid (Good c ∧ Small c) := hgs
  clear HV hgs
  by_cases h40 : (fl : Int) > 40
  · go_wp2_with fail
    go_ret
    exact ⟨rfl, hK2⟩
  by_cases h00 : (fl : Int) = 0
  · go_wp2_with fail
    go_ret
    exact ⟨rfl, hK2⟩
  by_cases h100 : (zl : Int) > 100
  · go_wp2_with fail
    go_ret
    exact ⟨rfl, hK2⟩
  have h101 : ¬ (100 : Int) < zl := by omega
  have hd1 : decide ((100 : Int) < zl) = false := decide_eq_false h101
  have h41 : ¬ (40 : Int) < fl := by omega
  have hd4 : decide ((40 : Int) < fl) = false := decide_eq_false h41
  have hd0 : decide ((fl : Int) = 0) = false := decide_eq_false h00
  have h01 : ¬ fl = 0 := by omega
  have c0 := hb2.cell 0
  have c1 := hb2.cell 1
  have c2 := hb2.cell 2
  have c3 := hb2.cell 3
  have c4 := hb2.cell 4
  have c5 := hb2.cell 5
  have c6 := hb2.cell 6
  have c7 := hb2.cell 7
  have c8 := hb2.cell 8
  have c9 := hb2.cell 9
  have c10 := hb2.cell 10
  have c11 := hb2.cell 11
  simp only [List.getElem?_cons_zero, List.getElem?_cons_succ] at c0 c1 c2 c3 c4 c5 c6 c7 c8 c9 c10 c11
  go_wp2_with fail
  refine (new_good c w2 Hg.out.1).mono ?_; rintro e w3 ⟨bm, rfl, hm3, hk3⟩
  have hK3 : Kept w w3 := hK2.trans' hk3
  have hb3 := hk3.blk hb2
  have hW3 : w.heap.size < w3.heap.size := hb3.lt
  clear c0 c1 c2 c3 c4 c5 c6 c7 c8 c9 c10 c11 hb2 hk3 hK2 
  go_wp2_with fail
  rw [← HFL.out]
  refine (filled14_any w3 Hg.out.1 hm3 (Nat.le_refl _) (HP.out.kept hK3) hz (by rw [HFL.out]; omega)).mono ?_; rintro e w5 ⟨bs, bl, mem0, n0, rfl, hs5, hfil, hbs5, hbl5, hk5⟩
  have hm5 := hm3.kept hk5 (Nat.le_refl _)
  have hK5 : Kept w w5 := hK3.trans' hk5
  have hB5 : w3.heap.size ≤ w5.heap.size := hk5.size
  have hkf5 : Below w3.heap.size w3 w5 := hk5
  clear hm3 hk5
  have hnb := nN_bound Hg.out.1
  obtain ⟨nn, hnn⟩ : ∃ nn : Nat, nN c = nn := ⟨_, rfl⟩
  rw [hnn] at hnb
  have HNN : Hid (nN c = nn) := hnn
  clear hnn
  have hnz : ¬ (nn : Int) = 0 := by omega
  obtain ⟨u, hu⟩ : ∃ u : Int, u = v % nn := ⟨_, rfl⟩
  have hu0 : 0 ≤ u := by rw [hu]; exact Int.emod_nonneg _ hnz
  have hu1 : u < nn := by rw [hu]; exact Int.emod_lt_of_pos _ (by omega)
  have hut : v.tmod nn = u := by rw [hu]; exact Int.tmod_eq_emod_of_nonneg hv.1
  have y1 : IntKind.i64.wrap v = v := wrap_small hv.1 (by omega)
  have y2 : IntKind.i64.wrap u = u := wrap_small hu0 (by omega)
  have y3 : IntKind.i64.wrap (u + 1) = u + 1 := wrap_small (by omega) (by omega)
  clear hu
  go_wp2_with fail
  refine (mNodes_any w5 hm5).mono ?_; rintro e wx ⟨rfl, rfl⟩
  rw [HNN.out]
  go_wp2_with fail
  have hv1 : 1 ≤ u + 1 ∧ u + 1 ≤ nN c := by rw [HNN.out]; omega
  obtain ⟨x, hx⟩ : ∃ x : Int, x = u + 1 := ⟨_, rfl⟩
  rw [← hx] at hv1 ⊢
  have hroom := room_bound c x
  have hpos : room c x ≠ 0 := fun e => room_zero.1 e hv1
  obtain ⟨rm, hrm⟩ : ∃ rm : Nat, room c x = rm := ⟨(room c x).toNat, by omega⟩
  rw [hrm] at hroom hpos
  have HRM : Hid (room c x = rm) := hrm
  have HX : Hid (x = u + 1) := hx
  clear hrm hx
  have yrm : IntKind.u64.wrap (rm : Int) = rm := by rw [IntKind.wrap_u64]; omega
  refine (mHeader_any x w5 hm5 Hg.out.1).mono ?_; rintro e wx ⟨rfl, rfl⟩
  go_wp2_with fail
  refine (mRoom_any x w5 hm5 Hg.out.1).mono ?_; rintro e wx ⟨rfl, rfl⟩
  rw [HRM.out]
  go_wp2_with fail
  refine (put_any (pNode c x 0) rm w5 hs5 (by unfold U; omega)).mono ?_; rintro e w6 ⟨rfl, hs6, hc6⟩
  have hb6 : Below w3.heap.size w5 w6 := hc6.toBelow hB5 (fun q hq e => by rcases e with e | e <;> omega)
  have hm6 := hm5.below hb6 (Nat.le_refl _)
  have hK6 : Kept w w6 := hK5.trans (hb6.mono (Nat.le_of_lt hW3))
  have z6 : w5.heap.size ≤ w6.heap.size := hc6.size
  have hnp := pNode_far Hg.out.1 hv1 (j := 0) (by omega) (by omega)
  have hlen : mem0.length = (allI c).toNat := hfil.len.trans (freeTo_len c _)
  have hpl := (node_place (c := c) hv1.1 hv1.2 (j := 0) (by omega) (by have := HRM.out; omega)).2
  have hA := allI_bound Hg.out.1
  have hn0 := node0_bound Hg.out.1
  have hcf6 : Blk w6 w.heap.size _ _ := below_blk (hkf5.trans hb6) hb3 hW3
  have HT0 : Hid (Tk c (mput mem0 (pNode c x 0) rm) 0) := by
    obtain ⟨P, S, h⟩ := hfil.ainv Hg.out.1
    exact ⟨[], P, S, rfl, ainv_put Hg.out.1 h hnp⟩
  have HD0 : Hid (mget (mput mem0 (pNode c x 0) rm) (pNode c x 0) = rm) := mget_put (by omega)
  have HL0 : Hid (((mput mem0 (pNode c x 0) rm).length : Int) = allI c) := by unfold Hid; rw [mput_len, hlen]; omega
  have HW0 : Hid (mget (mput mem0 (pNode c x 0) rm) 1 = 0) := by
    unfold Hid
    rw [mget_other (by omega), hfil.same 1 (fun v j v1 v2 hj hr e => by have h3 := (node_place (c := c) v1 v2 (j := j) (by omega) hr).1; omega), firstL_work Hg.out.1]
  generalize mput mem0 (pNode c x 0) rm = mem1 at *
  have HM0 : Hid (Md c x 0 7 (fun j => mget mem1 (pSlot c x j)) (fun _ => 0) false mem1 [] 0) :=
    ⟨HL0.out, by rw [HD0.out, HRM.out], fun _ _ _ => rfl, List.nodup_nil, by simp, by simp, fun j j0 j1 => by omega, by simp, fun e => by cases e⟩
  generalize (fun j => mget mem1 (pSlot c x j)) = sl at *
  clear hs5 hfil hm5 hK5 hc6 hb6 hlen hkf5 hb3 HD0 HL0
  go_wp2_with fail
  have hch : 1 ≤ c.ch ∧ c.ch ≤ 16 := by have := Hg.out.1; unfold Good at this; omega
  have hmk0 : (0 : Int) ≤ 0 ∧ (0 : Int) < c.mks := by have := Hg.out.1; unfold Good at this; omega
  have g8 := hcf6.cell 8
  simp only [List.getElem?_cons_zero, List.getElem?_cons_succ] at g8
  go_quiet ((go_at_call 35; exact Calls.quiet_of_same ((mRoom_any x _ (hm6.drewN _) Hg.out.1).mono fun _ _ h => ⟨by rw [h.1, HRM.out], h.2.symm⟩)))
  have hcq : Kept w6 (w6.drewN nq) := below_drewN (Below.refl _ _) nq
  have hs7 := hs6.kept hcq
  have hm7 := hm6.kept hcq (by omega)
  have hK7 : Kept w (w6.drewN nq) := hK6.trans' hcq
  have z7 : w3.heap.size ≤ (w6.drewN nq).heap.size := by have := hcq.size; omega
  generalize w6.drewN nq = w7 at *
  obtain ⟨en, hen⟩ : ∃ en : Nat, min c.ch (rm : Int) = en := ⟨(min c.ch (rm : Int)).toNat, by omega⟩
  rw [hen]
  have hen1 : en ≤ rm ∧ en ≤ 16 := by omega
  have HEN : Hid (P1 c x 0 = en) := by unfold Hid P1; rw [HRM.out, ← hen]; omega
  clear hen hcq hs6 hm6 hK6 g8 hcf6
  have hxn : x ≤ nn := by have := HNN.out; omega
  obtain ⟨hU, hhi, hlo, yx, _⟩ := task_parts (x := x) (fr := 0) (by omega) (by omega) (by omega) (by omega)
  have hx2 : x < 4294967296 := by omega
  obtain ⟨tk, htk⟩ : ∃ tk : Int, tk = x * 4294967296 + 0 := ⟨_, rfl⟩
  rw [← htk] at hU hhi hlo
  have hls := hs7.lt
  have HTK : Hid (x * 4294967296 + 0 = tk) := htk.symm
  clear htk
  have hL0 : Hid (LM c x 0 7 sl (fun _ => 0) false mem1 (newYS c 0 tk 7) 300 0 false []) := ⟨⟨hhi, hlo, rfl, rfl⟩, rfl, rfl, rfl, rfl, HM0.out, HW0.out, HT0.out⟩
  clear hhi hlo HM0 HW0 HT0
  go_wp2_with fail
  refine (pair_any x 0 w7 (by omega) hx2 (by omega) (by omega)).mono ?_; rintro e wx ⟨rfl, rfl⟩
  rw [HTK.out]
  go_wp2_with fail
  refine (scanNew_any (bm := bm) (bs := bs) (bl := bl) (c := c) 0 tk 7 w7 hmk0 hU (by unfold U; omega) hls.1 hls.2).mono ?_; rintro e w9 ⟨sx, rfl, hsx, hsxx, hk9⟩
  have hs9 := hs7.kept hk9
  have hm9 := hm7.kept hk9 z7
  have z9 : w7.heap.size ≤ w9.heap.size := hk9.size
  have hK9 : Kept w w9 := hK7.trans' hk9
  have hO9 : ∀ q, NewB w7 w9 q → w3.heap.size ≤ q := fun q hq => by have := hq.1; omega
  generalize NewB w7 w9 = O9 at *
  have hinit : LM c x 0 7 sl (fun _ => 0) false mem1 (newYS c 0 tk 7) 300 0 false [] := hL0.out
  have hp0 : (newYS c 0 tk 7).pc ≠ .done := by intro e; cases e
  have he0 : EvOk (newYS c 0 tk 7).ev := .inl rfl
  clear hL0 hs7 hm7 hk9 hK7 hls
  generalize newYS c 0 tk 7 = ys at *
  go_wp2_with fail
  go_loopw [17, 18] (fun cv kv wr => ∃ (k f : Nat) (a : Int) (rg : Bool) (mem' L : List Int) (s : YS) (n' : Int) (cl : Nat) (O : Nat → Prop), k + f ≤ 300 ∧ kv = .int .i64 k ∧ cv = .int .i64 cl ∧ Hid (L.length = cl) ∧ cl ≤ k ∧ s.pc ≠ .done ∧ EvOk s.ev ∧ LM c x 0 7 sl (fun _ => 0) false mem' s f a rg L ∧ ScAt wr sx bm bs bl c s O ∧ (∀ q, O q → w3.heap.size ≤ q) ∧ StoreAt wr bs bl mem' n' ∧ Below w3.heap.size w9 wr) (fun _ kv _ => 400 - (intOf kv).toNat)
  case atStart => exact ⟨0, 300, 0, false, mem1, [], ys, _, 0, O9, by omega, rfl, rfl, rfl, by omega, hp0, he0, hinit, hsx, hO9, hs9, Below.refl _ _⟩
  case round =>
    clear hinit hsx hs9 hp0 he0 hO9
    obtain ⟨k, f, a, rg, mem', L, s, n2, cl, O, hkf, rfl, rfl, HCL, hck0, hpc, hev, hL, hsc, hO, hst, hbk⟩ := hrel
    have hmk' := hm9.below hbk (Nat.le_refl _)
    have zk := hbk.size
    have D := scStep_any wr Hg.out.1 hsc hst hmk' (by omega) hO hbs5 hbl5 hev
    obtain ⟨f', a', rg', L', hf', hL', hT⟩ := LM.step Hg.out.1 hv1 ⟨by omega, by rw [HRM.out]; omega⟩ hL hpc
    have hev' := scStep_ev c mem' s
    have hfin := scStep_fin (c := c) (mem := mem') hpc
    have HLAST : Hid (s.pc = .last → (scStep c mem' s).2.ev.k = 4) := fun e => by simp only [scStep, e]
    have HT : Hid (Told (scStep c mem' s).2.ev a a' L L') := hT
    have HL : Hid (LM c x 0 7 sl (fun _ => 0) false (scStep c mem' s).1 (scStep c mem' s).2 f' a' rg' L') := hL'
    have HE : Hid (EvOk (scStep c mem' s).2.ev) := hev'
    have HO : Hid (∀ q, O q → w3.heap.size ≤ q) := hO
    clear hT hL' hev' hO hL hpc
    generalize hq1 : (scStep c mem' s).1 = mem2 at *
    generalize hq2 : (scStep c mem' s).2 = s2 at *
    clear hq1 hq2
    have hk400 : (k : Int) < 400 := by omega
    have yk : IntKind.i64.wrap ((k : Int) + 1) = k + 1 := wrap_small (by omega) (by omega)
    by_cases hlast : s.pc = .last
    · rw [decide_eq_true hlast] at hfin
      rw [hfin] at D
      have HD : Hid (s2.pc = .done) := yfin_iff.1 hfin
      have HLL : Hid (L' = L) := by
        have h4 := HLAST.out hlast
        rcases HT.out with h | h | h
        · exact absurd (h.1.symm.trans h4) (by decide)
        · exact h.2.1
        · exact h.2.2.1
      clear hlast hfin HLAST
      go_wp2_with fail
      refine D.mono ?_; rintro e w10 ⟨rfl, hsc2, hs10, hc2⟩
      have hb10 : Below w3.heap.size w9 w10 := hbk.trans (hc2.toBelow (by omega) (fun q hq e => by rcases e with e | e | e <;> first | (have := HO.out _ e; omega) | omega))
      obtain ⟨ga, gr, hM, hwk⟩ := LM.atDone HL.out HD.out
      rw [HLL.out, ga, HEN.out] at hM
      rw [HLL.out, gr, HEN.out, HRM.out, HCL.out] at hwk
      have hcl : cl ≤ en := by have := hM.few; have := HCL.out; omega
      have HM : Hid _ := hM
      have HWK : Hid _ := hwk
      have z10 := hc2.size
      have hO10 : ∀ q, Grow O wr w10 q → w3.heap.size ≤ q := by
        rintro q (e | e)
        · exact HO.out q e
        · omega
      have D2 := scStep_any w10 Hg.out.1 hsc2 hs10 (hm9.below hb10 (Nat.le_refl _)) (by omega) hO10 hbs5 hbl5 HE.out
      rw [scStep_done HD.out] at D2
      simp only [YS.clear] at D2
      rw [show YPc.fin (s2.pc) = true from by rw [HD.out]; rfl] at D2
      clear ga gr hM hwk hsc2 hs10 hc2 hbk hst hsc hmk' D HL HT HLL HCL
      have hc0 : ¬ (en : Int) < cl := by omega
      have hcn : ¬ en < cl := by omega
      have hcd : decide (en < cl) = false := decide_eq_false hcn
      have hen0 : (en : Int) ≤ rm := by omega
      clear hev
      go_wp2_with fail
      refine D2.mono ?_; rintro e w11 ⟨rfl, _, hs11, hc11⟩
      have hb11 : Below w3.heap.size w9 w11 := hb10.trans (hc11.toBelow (by omega) (fun q hq e => by rcases e with e | e | e <;> first | (have := hO10 _ e; omega) | omega))
      clear D2 hb10 hc11 hO10
      go_wp2_with fail
      go_loopw [20] (fun jv wr => ∃ (j : Nat) (n' : Int), j ≤ en ∧ jv = .int .i64 j ∧ StoreAt wr bs bl mem2 n' ∧ Below w3.heap.size w9 wr) (fun jv _ => en - (intOf jv).toNat)
      case atStart => exact ⟨0, _, by omega, rfl, hs11, hb11⟩
      case round =>
        clear hs11 hb11
        obtain ⟨j, n3, hj, rfl, hs, hb⟩ := hrel
        have hm' := hm9.below hb (Nat.le_refl _)
        have zr := hb.size
        by_cases hjn : (j : Int) < en
        · have yj : IntKind.i64.wrap ((j : Int) + 1) = j + 1 := wrap_small (by omega) (by omega)
          obtain ⟨t, ht⟩ : ∃ t : Int, mget mem2 (pSlot c x j) = t := ⟨_, rfl⟩
          have hcov : 1 ≤ t → t ≤ nn → 7 ≤ mget mem2 (pNode c t 2) := fun t1 t2 => by
            have h1 := HM.out.slo j (by omega) (by rw [HRM.out]; omega)
            have h2 := HM.out.cov j (by omega) (by omega)
            rw [← h1, ht] at h2
            exact h2 t1 (by rw [HNN.out]; exact t2)
          have htU := mget_all hs.all (pSlot c x j)
          rw [ht] at htU
          unfold U at htU
          have HTT : Hid _ := ht
          have ynn : IntKind.u64.wrap (nn : Int) = nn := by rw [IntKind.wrap_u64]; omega
          clear ht
          go_wp2_with fail
          refine (mSlot_any x j wr hm' Hg.out.1).mono ?_; rintro e wx ⟨rfl, rfl⟩
          go_wp2_with fail
          refine (load_any (pSlot c x j) wr hs).mono ?_; rintro e w12 ⟨rfl, hs12, hc12⟩
          rw [HTT.out]
          have hb12 := hb.trans (hc12.toBelow (by omega) (fun q hq e => by omega))
          have hm12 := hm9.below hb12 (Nat.le_refl _)
          have z12 := hc12.size
          clear hs hc12 hb hm'
          by_cases ht1 : 1 ≤ t
          · by_cases ht2 : t ≤ nn
            · have h7 := hcov ht1 ht2
              obtain ⟨mk, hmk⟩ : ∃ mk : Int, mget mem2 (pNode c t 2) = mk := ⟨_, rfl⟩
              rw [hmk] at h7
              have HMK : Hid (mget mem2 (pNode c t 2) = mk) := hmk
              have yt : IntKind.i64.wrap t = t := wrap_small (by omega) (by omega)
              clear hcov hmk
              go_wp2_with fail
              refine (mNodes_any w12 hm12).mono ?_; rintro e wx ⟨rfl, rfl⟩
              rw [HNN.out]
              go_wp2_with fail
              refine (mMark_any t w12 hm12 Hg.out.1).mono ?_; rintro e wx ⟨rfl, rfl⟩
              go_wp2_with fail
              refine (load_any (pNode c t 2) w12 hs12).mono ?_; rintro e w13 ⟨rfl, hs13, hc13⟩
              rw [HMK.out]
              have hb13 := hb12.trans (hc13.toBelow (by omega) (fun q hq e => by omega))
              go_wp2_with fail
              go_roundw
              case rel => exact ⟨j + 1, _, by omega, by go_num, hs13, hb13⟩
              case measure => simp [intOf]; omega
            · clear hcov
              go_wp2_with fail
              refine (mNodes_any w12 hm12).mono ?_; rintro e wx ⟨rfl, rfl⟩
              rw [HNN.out]
              go_wp2_with fail
              go_roundw
              case rel => exact ⟨j + 1, _, by omega, by go_num, hs12, hb12⟩
              case measure => simp [intOf]; omega
          · clear hcov
            go_wp2_with fail
            go_roundw
            case rel => exact ⟨j + 1, _, by omega, by go_num, hs12, hb12⟩
            case measure => simp [intOf]; omega
        · obtain rfl : j = en := by omega
          have hwk := HWK.out
          obtain ⟨X, hX⟩ : ∃ X : Int, mget mem2 1 = X := ⟨_, rfl⟩
          rw [hX] at hwk
          have HXX : Hid (mget mem2 1 = X) := hX
          clear hX
          have hKr : Kept w wr := hK9.trans (hb.mono (Nat.le_of_lt hW3))
          have yc : IntKind.u64.wrap (cl : Int) = cl := by rw [IntKind.wrap_u64]; omega
          have yc0 : IntKind.u64.wrap ((cl : Int) + 0) = cl := by rw [IntKind.wrap_u64]; omega
          have yc1 : IntKind.u64.wrap ((cl : Int) + 1) = cl + 1 := by rw [IntKind.wrap_u64]; omega
          by_cases hlt : (j : Int) < rm
          · have hXv : X = cl := by
              rw [hwk, decide_eq_true hlt]; unfold addI rgI; simp; omega
            subst hXv
            have yc2 : IntKind.u64.wrap ((cl : Int) + 1 - 1) = cl := by rw [IntKind.wrap_u64]; omega
            clear hwk
            go_wp2_with fail
            refine (mRoom_any x wr hm' Hg.out.1).mono ?_; rintro e wx ⟨rfl, rfl⟩
            rw [HRM.out]
            go_wp2_with fail
            refine (mWork_any bm wr).mono ?_; rintro e wx ⟨rfl, rfl⟩
            go_wp2_with fail
            refine (load_any 1 wr hs).mono ?_; rintro e w12 ⟨rfl, hs12, hc12⟩
            rw [HXX.out]
            have hK12 : Kept w w12 := hKr.trans (hc12.toBelow (by have := hKr.size; omega) (fun q hq e => by omega))
            go_wp2_with fail
            go_ret
            exact ⟨rfl, hK12⟩
          · have yc2 : IntKind.u64.wrap ((cl : Int) - 1) = X := by
              rw [hwk, decide_eq_false hlt, IntKind.wrap_u64]; unfold addI rgI; simp; omega
            clear hwk
            go_wp2_with fail
            refine (mRoom_any x wr hm' Hg.out.1).mono ?_; rintro e wx ⟨rfl, rfl⟩
            rw [HRM.out]
            go_wp2_with fail
            refine (mWork_any bm wr).mono ?_; rintro e wx ⟨rfl, rfl⟩
            go_wp2_with fail
            refine (load_any 1 wr hs).mono ?_; rintro e w12 ⟨rfl, hs12, hc12⟩
            rw [HXX.out]
            have hK12 : Kept w w12 := hKr.trans (hc12.toBelow (by have := hKr.size; omega) (fun q hq e => by omega))
            go_wp2_with fail
            go_ret
            exact ⟨rfl, hK12⟩
    · rw [decide_eq_false hlast] at hfin
      rw [hfin] at D
      have HD : Hid (s2.pc ≠ .done) := fun e => by rw [e] at hfin; cases hfin
      clear hlast hfin HLAST
      have hKr : Kept w wr := hK9.trans (hbk.mono (Nat.le_of_lt hW3))
      go_wp2_with fail
      refine D.mono ?_; rintro e w10 ⟨rfl, hsc2, hs10, hc2⟩
      have hb10 : Below w3.heap.size w9 w10 := hbk.trans (hc2.toBelow (by omega) (fun q hq e => by rcases e with e | e | e <;> first | (have := HO.out _ e; omega) | omega))
      have E := scEvent_any w10 hsc2
      have z10 := hc2.size
      have hO2 : ∀ q, Grow O wr w10 q → w3.heap.size ≤ q := by
        rintro q (e | e)
        · exact HO.out q e
        · omega
      have HO2 : Hid _ := hO2
      generalize Grow O wr w10 = O2 at *
      clear D hbk hst hsc hmk' hc2 HO hO2
      -- OTHERS
      have hzz : w3.heap.size ≤ w10.heap.size := by omega
      have hm10 := hm9.below hb10 (Nat.le_refl _)
      have hT2 : (s2.ev.k = 1 ∧ L'.length = cl + 1) ∨ (s2.ev.k ≠ 1 ∧ L'.length = cl) := by
        rcases HT.out with h | h | h
        · exact .inl ⟨h.1, by rw [h.2.1]; simp; exact HCL.out⟩
        · exact .inr ⟨by rw [h.1]; decide, by rw [h.2.1]; exact HCL.out⟩
        · exact .inr ⟨h.1, by rw [h.2.2.1]; exact HCL.out⟩
      clear HCL HT
      by_cases hkz : (k : Int) < zl
      · have hkz' : k < zs.length := by have := HZL.out; omega
        obtain ⟨ad, cap, e, hcap, hck⟩ := (show Reads w (.slice ao2 zs.length cp2) (zs.map (Value.int .u8)) from HP2.out).get (i := k) (by simpa using hkz')
        rw [List.getElem?_map, List.getElem?_eq_getElem hkz', Option.map_some] at hck
        have hzk := hz2 zs[k] (List.getElem_mem _)
        obtain ⟨hzk0, hzk1⟩ := hzk
        generalize zs[k] = z at *
        simp only [List.length_map, Value.slice.injEq] at e
        obtain ⟨rfl, _, rfl⟩ := e
        by_cases hz200 : z < 200
        · obtain ⟨r, hr⟩ : ∃ r : Nat, (r : Int) = z % nn := ⟨(z % nn).toNat, by have := Int.emod_nonneg z hnz; omega⟩
          have hr1 : r < nn := by have := Int.emod_lt_of_pos z (show (0 : Int) < nn by omega); omega
          have hrt : z.tmod nn = r := by rw [hr]; exact Int.tmod_eq_emod_of_nonneg hzk0
          have yz : IntKind.i64.wrap z = z := wrap_small hzk0 (by omega)
          have yr : IntKind.i64.wrap (r : Int) = r := wrap_small (by omega) (by omega)
          have yr1 : IntKind.i64.wrap ((r : Int) + 1) = r + 1 := wrap_small (by omega) (by omega)
          have hr2 : 1 ≤ (r : Int) + 1 ∧ (r : Int) + 1 ≤ nN c := by rw [HNN.out]; omega
          clear hr
          rcases hT2 with ⟨h1, h2⟩ | ⟨h1, h2⟩
          · skip
            rw [h1] at E
            have HCL2 : Hid (L'.length = cl + 1) := h2
            have yc : IntKind.i64.wrap ((cl : Int) + 1) = cl + 1 := wrap_small (by omega) (by omega)
            have hevk := ev_kind
            clear h1 h2
            go_wp2_with fail
            refine E.mono ?_; rintro e w11 ⟨rfl, hk11⟩
            have hs11 := hs10.kept hk11
            have hsc3 := hsc2.kept hk11
            have hm11 := hm10.kept hk11 hzz
            have hb11 := hb10.trans (hk11.mono hzz)
            have hK11 : Kept w w11 := hK9.trans (hb11.mono (Nat.le_of_lt hW3))
            have hz11 := hk11.size
            clear E hk11
            have hck11 : w11.cell? (ad.add k) = some (.int .u8 z) := by
              rw [Below.cell hK11 (by exact lt_of_cell hck)]; exact hck
            go_wp2_with fail
            go_quiet ((go_at_call 34; exact Calls.quiet_of_same ((mNodes_any _ (hm11.drewN _)).mono fun _ _ h => ⟨by rw [h.1, HNN.out], h.2.symm⟩)))
            have hcq : Kept w11 (w11.drewN nq) := below_drewN (Below.refl _ _) nq
            have hs12 := hs11.kept hcq
            have hsc4 := hsc3.kept hcq
            have hm12 := hm11.kept hcq (by omega)
            have hb12 := hb11.trans (hcq.mono (show w3.heap.size ≤ w11.heap.size by omega))
            have hz12 : w3.heap.size ≤ (w11.drewN nq).heap.size := by have := hcq.size; omega
            generalize w11.drewN nq = w12 at *
            clear hck11 hcq hs11 hsc3 hm11 hb11 hK11
            go_wp2_with fail
            refine (mMark_any ((r : Int) + 1) w12 hm12 Hg.out.1).mono ?_; rintro e wx ⟨rfl, rfl⟩
            go_wp2_with fail
            refine (put_any (pNode c ((r : Int) + 1) 2) 7 w12 hs12 (by unfold U; omega)).mono ?_; rintro e w13 ⟨rfl, hs13, hc13⟩
            have hb13 : Below w3.heap.size w9 w13 := hb12.trans (hc13.toBelow hz12 (fun q hq e => by rcases e with e | e <;> omega))
            have hsc5 : ScAt w13 sx bm bs bl c s2 O2 := hsc4.chg hc13 (fun q hq e => by have := hsc4.own q hq; rcases e with e | e <;> omega)
            have HLM2 : Hid (LM c x 0 7 sl (fun _ => 0) false (mput mem2 (pNode c ((r : Int) + 1) 2) 7) s2 f' a' rg' L') := LM.other Hg.out.1 hv1 HL.out hr2
            go_wp2_with fail
            go_roundw
            case rel =>
              exact ⟨k + 1, f', a', rg', (mput mem2 (pNode c ((r : Int) + 1) 2) 7), L', s2, _, (cl + 1), O2, by omega, by go_num, by first | rfl | go_num, HCL2.out, by omega, HD.out, HE.out, HLM2.out, hsc5, HO2.out, hs13, hb13⟩
            case measure => simp [intOf]; omega
          · skip
            have hb1 : (s2.ev.k == 1) = false := by simpa using h1
            have HCL2 : Hid (L'.length = cl) := h2
            generalize s2.ev = ev at E hb1
            have hevk := ev_kind
            clear h1 h2
            go_wp2_with fail
            refine E.mono ?_; rintro e w11 ⟨rfl, hk11⟩
            have hs11 := hs10.kept hk11
            have hsc3 := hsc2.kept hk11
            have hm11 := hm10.kept hk11 hzz
            have hb11 := hb10.trans (hk11.mono hzz)
            have hK11 : Kept w w11 := hK9.trans (hb11.mono (Nat.le_of_lt hW3))
            have hz11 := hk11.size
            clear E hk11
            have hck11 : w11.cell? (ad.add k) = some (.int .u8 z) := by
              rw [Below.cell hK11 (by exact lt_of_cell hck)]; exact hck
            go_wp2_with fail
            go_quiet ((go_at_call 34; exact Calls.quiet_of_same ((mNodes_any _ (hm11.drewN _)).mono fun _ _ h => ⟨by rw [h.1, HNN.out], h.2.symm⟩)))
            have hcq : Kept w11 (w11.drewN nq) := below_drewN (Below.refl _ _) nq
            have hs12 := hs11.kept hcq
            have hsc4 := hsc3.kept hcq
            have hm12 := hm11.kept hcq (by omega)
            have hb12 := hb11.trans (hcq.mono (show w3.heap.size ≤ w11.heap.size by omega))
            have hz12 : w3.heap.size ≤ (w11.drewN nq).heap.size := by have := hcq.size; omega
            generalize w11.drewN nq = w12 at *
            clear hck11 hcq hs11 hsc3 hm11 hb11 hK11
            go_wp2_with fail
            refine (mMark_any ((r : Int) + 1) w12 hm12 Hg.out.1).mono ?_; rintro e wx ⟨rfl, rfl⟩
            go_wp2_with fail
            refine (put_any (pNode c ((r : Int) + 1) 2) 7 w12 hs12 (by unfold U; omega)).mono ?_; rintro e w13 ⟨rfl, hs13, hc13⟩
            have hb13 : Below w3.heap.size w9 w13 := hb12.trans (hc13.toBelow hz12 (fun q hq e => by rcases e with e | e <;> omega))
            have hsc5 : ScAt w13 sx bm bs bl c s2 O2 := hsc4.chg hc13 (fun q hq e => by have := hsc4.own q hq; rcases e with e | e <;> omega)
            have HLM2 : Hid (LM c x 0 7 sl (fun _ => 0) false (mput mem2 (pNode c ((r : Int) + 1) 2) 7) s2 f' a' rg' L') := LM.other Hg.out.1 hv1 HL.out hr2
            go_wp2_with fail
            go_roundw
            case rel =>
              exact ⟨k + 1, f', a', rg', (mput mem2 (pNode c ((r : Int) + 1) 2) 7), L', s2, _, cl, O2, by omega, by go_num, by first | rfl | go_num, HCL2.out, by omega, HD.out, HE.out, HLM2.out, hsc5, HO2.out, hs13, hb13⟩
            case measure => simp [intOf]; omega
        · rcases hT2 with ⟨h1, h2⟩ | ⟨h1, h2⟩
          · skip
            rw [h1] at E
            have HCL2 : Hid (L'.length = cl + 1) := h2
            have yc : IntKind.i64.wrap ((cl : Int) + 1) = cl + 1 := wrap_small (by omega) (by omega)
            have hevk := ev_kind
            clear h1 h2
            go_wp2_with fail
            refine E.mono ?_; rintro e w11 ⟨rfl, hk11⟩
            have hs11 := hs10.kept hk11
            have hsc3 := hsc2.kept hk11
            have hm11 := hm10.kept hk11 hzz
            have hb11 := hb10.trans (hk11.mono hzz)
            have hK11 : Kept w w11 := hK9.trans (hb11.mono (Nat.le_of_lt hW3))
            have hz11 := hk11.size
            clear E hk11
            have hck11 : w11.cell? (ad.add k) = some (.int .u8 z) := by
              rw [Below.cell hK11 (by exact lt_of_cell hck)]; exact hck
            go_wp2_with fail
            go_roundw
            case rel =>
              exact ⟨k + 1, f', a', rg', mem2, L', s2, _, (cl + 1), O2, by omega, by go_num, by first | rfl | go_num, HCL2.out, by omega, HD.out, HE.out, HL.out, hsc3, HO2.out, hs11, hb11⟩
            case measure => simp [intOf]; omega
          · skip
            have hb1 : (s2.ev.k == 1) = false := by simpa using h1
            have HCL2 : Hid (L'.length = cl) := h2
            generalize s2.ev = ev at E hb1
            have hevk := ev_kind
            clear h1 h2
            go_wp2_with fail
            refine E.mono ?_; rintro e w11 ⟨rfl, hk11⟩
            have hs11 := hs10.kept hk11
            have hsc3 := hsc2.kept hk11
            have hm11 := hm10.kept hk11 hzz
            have hb11 := hb10.trans (hk11.mono hzz)
            have hK11 : Kept w w11 := hK9.trans (hb11.mono (Nat.le_of_lt hW3))
            have hz11 := hk11.size
            clear E hk11
            have hck11 : w11.cell? (ad.add k) = some (.int .u8 z) := by
              rw [Below.cell hK11 (by exact lt_of_cell hck)]; exact hck
            go_wp2_with fail
            go_roundw
            case rel =>
              exact ⟨k + 1, f', a', rg', mem2, L', s2, _, cl, O2, by omega, by go_num, by first | rfl | go_num, HCL2.out, by omega, HD.out, HE.out, HL.out, hsc3, HO2.out, hs11, hb11⟩
            case measure => simp [intOf]; omega
      · rcases hT2 with ⟨h1, h2⟩ | ⟨h1, h2⟩
        · skip
          rw [h1] at E
          have HCL2 : Hid (L'.length = cl + 1) := h2
          have yc : IntKind.i64.wrap ((cl : Int) + 1) = cl + 1 := wrap_small (by omega) (by omega)
          have hevk := ev_kind
          clear h1 h2
          go_wp2_with fail
          refine E.mono ?_; rintro e w11 ⟨rfl, hk11⟩
          have hs11 := hs10.kept hk11
          have hsc3 := hsc2.kept hk11
          have hm11 := hm10.kept hk11 hzz
          have hb11 := hb10.trans (hk11.mono hzz)
          have hK11 : Kept w w11 := hK9.trans (hb11.mono (Nat.le_of_lt hW3))
          have hz11 := hk11.size
          clear E hk11
          go_wp2_with fail
          go_roundw
          case rel =>
            exact ⟨k + 1, f', a', rg', mem2, L', s2, _, (cl + 1), O2, by omega, by go_num, by first | rfl | go_num, HCL2.out, by omega, HD.out, HE.out, HL.out, hsc3, HO2.out, hs11, hb11⟩
          case measure => simp [intOf]; omega
        · skip
          have hb1 : (s2.ev.k == 1) = false := by simpa using h1
          have HCL2 : Hid (L'.length = cl) := h2
          generalize s2.ev = ev at E hb1
          have hevk := ev_kind
          clear h1 h2
          go_wp2_with fail
          refine E.mono ?_; rintro e w11 ⟨rfl, hk11⟩
          have hs11 := hs10.kept hk11
          have hsc3 := hsc2.kept hk11
          have hm11 := hm10.kept hk11 hzz
          have hb11 := hb10.trans (hk11.mono hzz)
          have hK11 : Kept w w11 := hK9.trans (hb11.mono (Nat.le_of_lt hW3))
          have hz11 := hk11.size
          clear E hk11
          go_wp2_with fail
          go_roundw
          case rel =>
            exact ⟨k + 1, f', a', rg', mem2, L', s2, _, cl, O2, by omega, by go_num, by first | rfl | go_num, HCL2.out, by omega, HD.out, HE.out, HL.out, hsc3, HO2.out, hs11, hb11⟩
          case measure => simp [intOf]; omega

end Go.Proofs.YtapdpclgbpgklaaGreat
