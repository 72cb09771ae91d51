/- A marker that looks for a task: from whom it steals; a packet that is taken; how many tasks it has: walked. -/
import Derived.Test.YtapdpclgbpgklaaGreatPkSeek3
namespace Go.Proofs.YtapdpclgbpgklaaGreat
open Go.RowKit

theorem vict_parts {all draw : Int} (h : 2 ≤ all) : ∃ t u : Int, draw.tmod all = t ∧ (t + all).tmod all = u ∧ -all < t ∧ t < all ∧ 0 ≤ u ∧ u < all := by
  refine ⟨_, _, rfl, rfl, Int.lt_tmod_of_pos _ (by omega), Int.tmod_lt_of_pos _ (by omega), ?_, Int.tmod_lt_of_pos _ (by omega)⟩
  have := Int.lt_tmod_of_pos draw (show (0 : Int) < all by omega)
  exact Int.tmod_nonneg _ (by omega)

set_option maxRecDepth 8000 in
theorem vict_any (all i draw : Int) (w : World) (h : all ≤ 1000000) :
    Calls Tryz.prog 97 #[.int .i64 all, .int .i64 i, .int .i64 draw] w fun r w' => r = .returned (.int .i64 (victim all i draw)) ∧ w = w' := by
  unfold victim
  by_cases h2 : all < 2
  · rw [if_pos h2]
    go_enter Tryz.func97, Tryz.ntmps97
    go_wp2_with fail
    go_ret
    exact ⟨rfl, rfl⟩
  · rw [if_neg h2]
    obtain ⟨t, u, ht, hu, t0, t1, u0, u1⟩ := vict_parts (all := all) (draw := draw) (by omega)
    rw [ht, hu]
    have haz : ¬ all = 0 := by omega
    have y1 : IntKind.i64.wrap t = t := IntWalk.i64_in _ (by omega)
    have y2 : IntKind.i64.wrap (t + all) = t + all := IntWalk.i64_in _ (by omega)
    have y3 : IntKind.i64.wrap u = u := IntWalk.i64_in _ (by omega)
    have y4 : IntKind.i64.wrap (u + 1) = u + 1 := IntWalk.i64_in _ (by omega)
    by_cases hi : u = i
    · rw [if_pos hi]
      subst hi
      have z0 : 0 ≤ (u + 1).tmod all := Int.tmod_nonneg _ (by omega)
      have z1 : (u + 1).tmod all < all := Int.tmod_lt_of_pos _ (by omega)
      obtain ⟨v, hv⟩ : ∃ v : Int, (u + 1).tmod all = v := ⟨_, rfl⟩
      rw [hv] at z0 z1 ⊢
      have y5 : IntKind.i64.wrap v = v := IntWalk.i64_in _ (by omega)
      go_enter Tryz.func97, Tryz.ntmps97
      go_wp2_with fail
      go_ret
      exact ⟨rfl, rfl⟩
    · rw [if_neg hi]
      have hib : (u == i) = false := by simpa using hi
      go_enter Tryz.func97, Tryz.ntmps97
      go_wp2_with fail
      go_ret
      exact ⟨rfl, rfl⟩

theorem victim_lt {all i draw : Int} (h : 0 ≤ victim all i draw) : victim all i draw < all := by
  unfold victim at h ⊢
  by_cases h2 : all < 2
  · rw [if_pos h2] at h; omega
  · rw [if_neg h2] at h ⊢
    split
    · exact Int.tmod_lt_of_pos _ (by omega)
    · exact Int.tmod_lt_of_pos _ (by omega)

theorem cfg_mks (a b d e f g i j k l m n : Int) (W : World) : (Instr.field 24 (.agg #[.int .i64 a, .int .i64 b, .int .i64 d, .int .i64 e, .int .i64 f, .int .i64 g, .int .i64 i, .int .i64 j, .int .i64 k, .int .i64 l, .int .i64 m, .int .i64 n]) 1).run Tryz.prog W = .ok (.int .i64 g) W := by kernel_rfl

set_option maxRecDepth 8000 in
set_option maxHeartbeats 3200000 in
theorem skTake_does {x bm bs bl B : Nat} {c : Cfg} {s : KS} {O : Nat → Prop} {mem : List Int} {n : Int} (w : World) (hg : Good c) (h : SkAt w x bm bs bl c s O) (hs : StoreAt w bs bl mem n) (hm : MapAt w B bm c) (hB : B ≤ w.heap.size) (hO : ∀ k, O k → B ≤ k) (hBs : B ≤ bs) (hBl : B ≤ bl) (hp : s.pc = .take) :
    Calls Tryz.prog 175 #[.pointer (some ⟨x, 0, none⟩), .pointer (some ⟨bs, 0, none⟩)] w fun r w' => r = .returned (.tuple #[]) ∧ SkAt w' x bm bs bl c (skStep c mem s).2 (Grow O w w') ∧ StoreAt w' bs bl (skStep c mem s).1 (cnt n) ∧ Chg (OwnB O bs bl) w w' := by
  obtain ⟨pc, i, bp, ba, bn, draw, task, found, dq, pk, vi, st⟩ := s
  simp only at hp
  subst hp
  obtain ⟨ut, act, own, xin, _, ev, pv, hx, _, h2, _⟩ := h
  simp only [KS.kv] at hx ut act h2
  simp only [skStep]
  obtain ⟨hpf, hok, htn, b, bi, rfl, hpm, ob, obi, n1, n2⟩ := h2 (.inr trivial)
  have act := act (by decide)
  have lx := own x xin
  have lb := own b ob
  have lbi := own bi obi
  have xB := hO x xin
  have hbm := hm.cells.1
  have hmk : 1 ≤ c.mks ∧ c.mks ≤ 4 := by unfold Good at hg; omega
  obtain ⟨ls, ll⟩ := hs.lt
  have hap := hpm.ap
  have D := pstep_all w hg hpm hs hm (by omega) hok
  have hok2 := pmStep_ok (c := c) (mem := mem) hok
  have htn2 : (pmStep c mem pk).2.tasks = [] := by rw [pmStep_tasks]; exact htn
  rw [hpf] at D
  have nsx : ¬ PmB b bi bs bl x := by rintro (e | e | e | e); exact n1 e; exact n2 e; exact lx.2.1 e; exact lx.2.2 e
  have hmono : ∀ k, k < w.heap.size → PmB b bi bs bl k → OwnB O bs bl k := by
    rintro k _ (e | e | e | e)
    · exact .inl (e ▸ ob)
    · exact .inl (e ▸ obi)
    · exact .inr (.inl e)
    · exact .inr (.inr e)
  have HOK : Hid (PmOk (pmStep c mem pk).2 ∧ (pmStep c mem pk).2.tasks = []) := ⟨hok2, htn2⟩
  clear hok2 htn2 hok htn
  generalize pmStep c mem pk = rr at *
  obtain ⟨mem2, p2⟩ := rr
  simp only at D ⊢
  have g7 := hx.cell 7
  simp only [List.getElem?_cons_zero, List.getElem?_cons_succ] at g7
  cases hf : p2.pc.fin
  · simp only [Bool.false_eq_true, ↓reduceIte]
    rw [hf] at D
    go_enter Tryz.func175, Tryz.ntmps175
    go_wp2_with fail
    refine D.mono ?_; rintro r w2 ⟨rfl, ⟨bi', hp2, hbi⟩, hs2, hc2⟩
    have HB : Hid (bi' = bi ∨ w.heap.size ≤ bi') := hbi
    clear hbi
    go_wp2_with fail
    refine bodyPost_ret (results_none rfl _ _ _) rfl ?_
    obtain ⟨b2, hp3, hG, hx2⟩ := hp2.home2 (bi := bi) (w0 := w) (O := O) ⟨hap.1, hap.2.2.2.1, hap.2.2.2.2.1, hap.2.2.2.2.2.2.1⟩ obi HB.out (x := x) ⟨n2, lx.1⟩
    exact ⟨rfl, ⟨ut, fun _ => act, grow_ok own hc2.size ls ll, .inl xin, fun e => (by cases e), ev, _, hc2.blk hx nsx, fun e => (by cases e), fun _ => ⟨hf, HOK.out.1, HOK.out.2, b, b2, rfl, hp3, .inl ob, hG, n1, hx2⟩, fun e => (by cases e), fun e => by cases e⟩, hs2, hc2.mono hmono⟩
  · simp only [↓reduceIte]
    have HF : Hid (p2.pc = .done) := fin_iff.1 hf
    have P : ∀ (W : World) (bi' : Nat), PmAt W b bi' bm bm bs bl p2 → Calls Tryz.prog 55 #[.pointer (some ⟨b, 0, none⟩)] W fun e w' => e = .returned (.int .i64 p2.p) ∧ W = w' := fun W bi' hW => by
      have := mPacket_any W hW
      rw [hf] at this
      simpa using this
    rw [hf] at D
    clear hf HOK
    obtain ⟨pp, hpp⟩ : ∃ pp : Int, p2.p = pp := ⟨_, rfl⟩
    rw [hpp] at P
    have HPP : Hid (p2.p = pp) := hpp
    by_cases hp0 : pp = 0
    · subst hp0
      rw [if_neg (by rw [hpp]; simp)]
      clear hpp
      obtain ⟨vv, hvv⟩ : ∃ vv : Int, victim c.mks i draw = vv := ⟨_, rfl⟩
      have hlt : 0 ≤ vv → vv < c.mks := fun h => by rw [← hvv] at h ⊢; exact victim_lt h
      have V := fun W => vict_any c.mks i draw W (by omega)
      rw [hvv] at V ⊢
      clear hvv
      have hcm := cfg_mks
      by_cases hv0 : 0 ≤ vv
      case' pos =>
        rw [if_pos hv0]
        have EO := ends_ok hg vv
      case' neg =>
        rw [if_neg hv0]
      all_goals
        go_enter Tryz.func175, Tryz.ntmps175
        go_wp2_with fail
        refine D.mono ?_; rintro r w2 ⟨rfl, ⟨bi', hp2, hbi⟩, hs2, hc2⟩
        have hx2 := hc2.blk hx nsx
        have hcw2 := hc2.mono hmono
        have hm2 := hm.below (hcw2.ownBelow hB hO hBs hBl) (Nat.le_refl _)
        have z2 := hcw2.size
        have k7 := hx2.cell 7
        have k10 := hx2.cell 10
        have f10 := hx2.free 10
        simp only [List.getElem?_cons_zero, List.getElem?_cons_succ] at k7 k10
        clear hbi D
        go_wp2_with fail
        refine (P w2 bi' hp2).mono ?_; rintro r wx ⟨rfl, rfl⟩
        go_wp2_with fail
        have hx3 : Blk (w2.setCell ⟨x, 10, none⟩ .nilFunc) x 166 (skL bm ⟨i, bp, ba, bn, draw, task, found⟩ ev (.pointer (some ⟨b, 0, none⟩)) .nilFunc) := hx2.set' 10 _ rfl
        have hc3 : Chg (fun k => k = x) w2 (w2.setCell ⟨x, 10, none⟩ .nilFunc) := (Chg.refl _ w2).setCell _ _ (fun _ => rfl)
        have hs3 := hs2.chg hc3 (Ne.symm lx.2.1) (Ne.symm lx.2.2)
        have hm3 := hm2.below (hc3.toBelow (B := B) (by omega) (fun q hq e => by omega)) (Nat.le_refl _)
        have hcw3 : Chg (OwnB O bs bl) w (w2.setCell ⟨x, 10, none⟩ .nilFunc) := hcw2.trans (hc3.mono (fun k _ e => .inl (e ▸ xin)))
        have z3 := hc3.size
        generalize w2.setCell ⟨x, 10, none⟩ .nilFunc = w3 at *
        clear k7 k10 f10 hp2 hs2 hm2 hx2
        have k0 := hx3.cell 0
        have k1 := hx3.cell 1
        have k5 := hx3.cell 5
        have hxd := hx3.drew
        have d0 := hxd.cell 0
        have d1 := hxd.cell 1
        have d5 := hxd.cell 5
        simp only [List.getElem?_cons_zero, List.getElem?_cons_succ] at k0 k1 k5 d0 d1 d5
        go_region_held3 (fun w' => w'.cell? ⟨x, 0, none⟩ = some (.pointer (some ⟨bm, 0, none⟩)) ∧ w'.cell? ⟨x, 1, none⟩ = some (.int .i64 i) ∧ w'.cell? ⟨x, 5, none⟩ = some (.int .i64 draw))
          (first | exact ⟨k0, k1, k5⟩ | exact ⟨d0, d1, d5⟩ | exact ⟨j0, j1, j5⟩)
          (first
           | (go_at_call 124; refine (mConfig_any _ hm3.drew).mono ?_; rintro r w4 ⟨rfl, hk4⟩
              have hx4 := hk4.blk hxd
              have j0 := hx4.cell 0
              have j1 := hx4.cell 1
              have j5 := hx4.cell 5
              simp only [List.getElem?_cons_zero, List.getElem?_cons_succ] at j0 j1 j5)
           | (go_at_call 97; refine (V _).mono ?_; rintro r w5 ⟨rfl, rfl⟩))
      all_goals
        have hkd : Kept w3 w3.drew := (Below.refl _ w3).drew
        have hk4' : Kept w3 w4 := hkd.trans' hk4
        have hs4 := hs3.kept hk4'
        have hm4 := hm3.kept hk4' (by omega)
        have hcw4 : Chg (OwnB O bs bl) w w4 := hcw3.trans (Chg.ofBelow hk4')
        have z4 := hk4'.size
      · go_wp2_with fail
        go_end0
        exact ⟨rfl, SkAt.plain ut (fun e => absurd rfl e) (grow_ok own hcw4.size ls ll) (.inl xin) (fun e => by cases e) hx4 (.inl rfl), hs4, hcw4⟩
      · clear hx3 k0 k1 k5 hxd d0 d1 d5 hs3 hm3 hk4 hkd hk4'
        go_wp2_with fail
        refine (ends_any vv w4 hm4 (by omega) hg).mono ?_; rintro r w5 ⟨rfl, hk5⟩
        have hx5 := hk5.blk hx4
        have hs5 := hs4.kept hk5
        have z5 := hk5.size
        go_wp2_with fail
        refine (steal_deq (endsOf c vv) w5 EO).mono ?_; rintro r w6 ⟨sb, s1, s2, rfl, hd6, y1, y2, y3, hk6⟩
        have hx6 := hk6.blk hx5
        have hs6 := hs5.kept hk6
        have z6 := hk6.size
        have hcw6 : Chg (OwnB O bs bl) w w6 := (hcw4.trans (Chg.ofBelow hk5)).trans (Chg.ofBelow hk6)
        have lb1 := hd6.blk.lt
        have lq1 := (hd6.box rfl).1.lt
        have lq2 := (hd6.box rfl).2.lt
        have k6 := hx6.cell 6
        have f6 := hx6.free 6
        have k10 := hx6.cell 10
        have f10 := hx6.free 10
        simp only [List.getElem?_cons_zero, List.getElem?_cons_succ] at k6 k10
        clear hx4 hx5 hs4 hs5 hm4 hk5 hk6 hcw4
        go_wp2_with fail
        go_end0
        have hc7 : Chg (fun k => k = x) w6 ((w6.setCell ⟨x, 6, none⟩ (.pointer (some ⟨sb, 0, none⟩))).setCell ⟨x, 10, none⟩ ((KPc.steal).val x)) := ((Chg.refl (fun k => k = x) w6).setCell ⟨x, 6, none⟩ _ (fun _ => rfl)).setCell ⟨x, 10, none⟩ _ (fun _ => rfl)
        have hcw7 := hcw6.trans (hc7.mono (T := OwnB O bs bl) (fun k _ e => .inl (e ▸ xin)))
        have z7 := hc7.size
        exact ⟨rfl, ⟨ut, fun _ => act, grow_ok own hcw7.size ls ll, .inl xin, fun e => (by cases e), _, _, (hx6.set' 6 _ rfl).set' 10 _ rfl, fun e => (by cases e), fun e => (by rcases e with e | e <;> cases e), fun e => (by cases e), fun _ => ⟨rfl, sb, s1, s2, rfl, hd6.chg hc7 (show ¬ sb = x by omega) (show ¬ s1 = x by omega) (show ¬ s2 = x by omega), .inr ⟨by omega, Nat.lt_of_lt_of_le lb1 z7⟩, .inr ⟨by omega, Nat.lt_of_lt_of_le lq1 z7⟩, .inr ⟨by omega, Nat.lt_of_lt_of_le lq2 z7⟩, by omega, by omega, by omega⟩⟩, hs6.chg hc7 (Ne.symm lx.2.1) (Ne.symm lx.2.2), hcw7⟩
    · rw [if_pos (by rw [hpp]; exact hp0)]
      clear hpp
      have hb1 : (pp == 0) = false := by simpa using hp0
      have hb2 : decide (pp = 0) = false := decide_eq_false hp0
      have hb3 : (pp != 0) = true := by simpa using hp0
      go_enter Tryz.func175, Tryz.ntmps175
      go_wp2_with fail
      refine D.mono ?_; rintro r w2 ⟨rfl, ⟨bi', hp2, hbi⟩, hs2, hc2⟩
      have hx2 := hc2.blk hx nsx
      have hcw2 := hc2.mono hmono
      have k7 := hx2.cell 7
      have k10 := hx2.cell 10
      have f10 := hx2.free 10
      simp only [List.getElem?_cons_zero, List.getElem?_cons_succ] at k7 k10
      clear hbi D
      go_wp2_with fail
      refine (P w2 bi' hp2).mono ?_; rintro r wx ⟨rfl, rfl⟩
      go_wp2_with fail
      refine bodyPost_ret (results_none rfl _ _ _) rfl ?_
      have hc3 : Chg (fun k => k = x) w2 (w2.setCell ⟨x, 10, none⟩ ((KPc.many).val x)) := (Chg.refl _ w2).setCell _ _ (fun _ => rfl)
      have hcw3 := hcw2.trans (hc3.mono (T := OwnB O bs bl) (fun k _ e => .inl (e ▸ xin)))
      have hgot := (hp2.got HF.out).chg hc3 (show ¬ b = x by omega)
      exact ⟨rfl, ⟨ut, fun _ => act, grow_ok own hcw3.size ls ll, .inl xin, fun e => (by cases e), ev, _, hx2.set' 10 _ rfl, fun e => (by cases e), fun e => (by rcases e with e | e <;> cases e), fun _ => ⟨hp2.rng, b, rfl, hgot, .inl ob, n1⟩, fun e => by cases e⟩, hs2.chg hc3 (Ne.symm lx.2.1) (Ne.symm lx.2.2), hcw3⟩

set_option maxRecDepth 8000 in
set_option maxHeartbeats 3200000 in
theorem skMany_does {x bm bs bl B : Nat} {c : Cfg} {s : KS} {O : Nat → Prop} {mem : List Int} {n : Int} (w : World) (hg : Good c) (h : SkAt w x bm bs bl c s O) (hs : StoreAt w bs bl mem n) (hm : MapAt w B bm c) (hB : B ≤ w.heap.size) (hO : ∀ k, O k → B ≤ k) (hBs : B ≤ bs) (hBl : B ≤ bl) (hp : s.pc = .many) :
    Calls Tryz.prog 188 #[.pointer (some ⟨x, 0, none⟩), .pointer (some ⟨bs, 0, none⟩)] w fun r w' => r = .returned (.tuple #[]) ∧ SkAt w' x bm bs bl c (skStep c mem s).2 (Grow O w w') ∧ StoreAt w' bs bl (skStep c mem s).1 (cnt n) ∧ Chg (OwnB O bs bl) w w' := by
  obtain ⟨pc, i, bp, ba, bn, draw, task, found, dq, pk, vi, st⟩ := s
  simp only at hp
  subst hp
  obtain ⟨ut, act, own, xin, _, ev, pv, hx, _, _, h3, _⟩ := h
  simp only [KS.kv] at hx ut act h3
  simp only [skStep]
  obtain ⟨hpr, b, rfl, hgot, ob, n1⟩ := h3 trivial
  have act := act (by decide)
  have lx := own x xin
  have lb := own b ob
  have xB := hO x xin
  obtain ⟨ls, ll⟩ := hs.lt
  obtain ⟨pp, hpp⟩ : ∃ pp : Int, pk.p = pp := ⟨_, rfl⟩
  rw [hpp] at hgot hpr ⊢
  clear hpp
  have hV := mget_all hs.all (pPack c pp 0)
  unfold U at hV
  obtain ⟨vv, hvv⟩ : ∃ vv : Int, mget mem (pPack c pp 0) = vv := ⟨_, rfl⟩
  rw [hvv] at hV
  have HT : Hid (mget mem (pPack c pp 0) = vv) := hvv
  rw [hvv]
  clear hvv
  obtain ⟨mn, hmn⟩ : ∃ mn : Int, min vv 4 = mn := ⟨_, rfl⟩
  have hmn0 : 0 ≤ mn ∧ mn ≤ 4 := by omega
  have HMN : Hid (min vv 4 = mn) := hmn
  rw [hmn]
  clear hmn
  have ym : IntKind.i64.wrap mn = mn := wrap_small (by omega) (by omega)
  have HW : Hid (∀ (w3 : World), Blk w3 x 166 (skL bm ⟨i, pp, 0, mn, draw, task, found⟩ ev (.pointer (some ⟨b, 0, none⟩)) ((KPc.many).val x)) → StoreAt w3 bs bl mem (cnt n) → MapAt w3 B bm c → B ≤ w3.heap.size → (∀ k, O k → k < w3.heap.size ∧ k ≠ bs ∧ k ≠ bl) → Calls Tryz.prog 149 #[.pointer (some ⟨x, 0, none⟩)] w3 fun r w' => r = .returned (.tuple #[]) ∧ SkAt w' x bm bs bl c (unpackK c ⟨.many, i, pp, 0, mn, draw, task, found, dq, pk, vi, st⟩) (Grow O w3 w') ∧ StoreAt w' bs bl mem (cnt n) ∧ Chg (OwnB O bs bl) w3 w') :=
    fun w3 hx3 hs3 hm3 hB3 own3 => unpack_does (s := ⟨.many, i, pp, 0, mn, draw, task, found, dq, pk, vi, st⟩) w3 hg hx3 ut ⟨act.1, zero4, hmn0⟩ own3 xin hs3 hm3 hB3 hO hBs hBl
  generalize unpackK c ⟨.many, i, pp, 0, mn, draw, task, found, dq, pk, vi, st⟩ = s3 at *
  have g0 := hx.cell 0
  have g7 := hx.cell 7
  simp only [List.getElem?_cons_zero, List.getElem?_cons_succ] at g0 g7
  go_enter Tryz.func188, Tryz.ntmps188
  go_wp2_with fail
  refine (ppackGot w hgot).mono ?_; rintro r wx ⟨rfl, rfl⟩
  go_wp2_with fail
  refine (mMany_any pp w hm hg).mono ?_; rintro r wx ⟨rfl, rfl⟩
  go_wp2_with fail
  refine (load_any (pPack c pp 0) w hs).mono ?_; rintro r w2 ⟨rfl, hs2, hc2⟩
  rw [HT.out]
  have hx2 := hc2.blk hx lx.2.1
  have hcw2 : Chg (OwnB O bs bl) w w2 := hc2.mono (fun _ _ e => .inr (.inl e))
  have hm2 := hm.below (hcw2.ownBelow hB hO hBs hBl) (Nat.le_refl _)
  have z2 := hc2.size
  have k2 := hx2.cell 2
  have k3 := hx2.cell 3
  have k4 := hx2.cell 4
  have f2 := hx2.free 2
  have f3 := hx2.free 3
  have f4 := hx2.free 4
  simp only [List.getElem?_cons_zero, List.getElem?_cons_succ] at k2 k3 k4
  clear hx g0 g7 hs hm
  have hmm := HMN.out
  go_wp2_with fail
  have hx3 : Blk (((w2.setCell ⟨x, 2, none⟩ (.int .i64 pp)).setCell ⟨x, 3, none⟩ (.int .i64 0)).setCell ⟨x, 4, none⟩ (.int .i64 mn)) x 166 (skL bm ⟨i, pp, 0, mn, draw, task, found⟩ ev (.pointer (some ⟨b, 0, none⟩)) ((KPc.many).val x)) := ((hx2.set' 2 _ rfl).set' 3 _ rfl).set' 4 _ rfl
  have hc3 : Chg (fun k => k = x) w2 (((w2.setCell ⟨x, 2, none⟩ (.int .i64 pp)).setCell ⟨x, 3, none⟩ (.int .i64 0)).setCell ⟨x, 4, none⟩ (.int .i64 mn)) := (((Chg.refl (fun k => k = x) w2).setCell ⟨x, 2, none⟩ _ (fun _ => rfl)).setCell ⟨x, 3, none⟩ _ (fun _ => rfl)).setCell ⟨x, 4, none⟩ _ (fun _ => rfl)
  generalize ((w2.setCell ⟨x, 2, none⟩ (.int .i64 pp)).setCell ⟨x, 3, none⟩ (.int .i64 0)).setCell ⟨x, 4, none⟩ (.int .i64 mn) = w3 at *
  have hs3 := hs2.chg hc3 (Ne.symm lx.2.1) (Ne.symm lx.2.2)
  have hcw3 := hcw2.trans (hc3.mono (T := OwnB O bs bl) (fun k _ e => .inl (e ▸ xin)))
  have z3 := hcw3.size
  have hm3 := hm2.below (hc3.toBelow (B := B) (by omega) (fun q hq e => by omega)) (Nat.le_refl _)
  have own3 : ∀ k, O k → k < w3.heap.size ∧ k ≠ bs ∧ k ≠ bl := fun k hk => ⟨Nat.lt_of_lt_of_le (own k hk).1 z3, (own k hk).2⟩
  refine (HW.out w3 hx3 hs3 hm3 (by omega) own3).mono ?_; rintro r w4 ⟨rfl, hk4, hs4, hc4⟩
  go_wp2_with fail
  go_end0
  have z4 := hc4.size
  exact ⟨rfl, hk4.more (fun k hk => by rcases hk with e | e; exact .inl e; exact .inr ⟨by omega, e.2⟩) (grow_ok own (Nat.le_trans z3 z4) ls ll), hs4, hcw3.trans hc4⟩

end Go.Proofs.YtapdpclgbpgklaaGreat
