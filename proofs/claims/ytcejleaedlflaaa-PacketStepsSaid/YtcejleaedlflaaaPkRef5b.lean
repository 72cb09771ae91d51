/- All things of the document's map, in their order, and where each stands: walked. -/
import Derived.Test.YtcejleaedlflaaaPkRef5
import Derived.Test.YtcejleaedlflaaaPkWalk
import Derived.Deep.AppendLies
namespace Go.Proofs.Ytcejleaedlflaaa
open Go.RowKit

theorem info_T : (Try.prog.info? 118).map (fun i => (i.zero, i.size, i.bytes)) = some (some (.agg #[.int .i64 0, .int .i64 0, .int .i64 0]), 3, 24) := by kernel_rfl

def flatT (L : List T3) : List Value := L.flatMap fun t => [.int .i64 t.k, .int .i64 t.a, .int .i64 t.b]

theorem flatT_append (A B : List T3) : flatT (A ++ B) = flatT A ++ flatT B := by simp [flatT]

theorem flatT_len (L : List T3) : (flatT L).length = L.length * 3 := by
  induction L with
  | nil => rfl
  | cons t L ih => simp only [flatT, List.flatMap_cons, List.length_append, List.length_cons, List.length_nil] at ih ⊢; omega

theorem flatT_get (L : List T3) (i : Nat) (t : T3) (h : L[i]? = some t) : (flatT L)[3 * i]? = some (.int .i64 t.k) ∧ (flatT L)[3 * i + 1]? = some (.int .i64 t.a) ∧ (flatT L)[3 * i + 2]? = some (.int .i64 t.b) := by
  induction L generalizing i with
  | nil => simp at h
  | cons x L ih =>
    match i, h with
    | 0, h => simp at h; subst h; exact ⟨rfl, rfl, rfl⟩
    | i + 1, h =>
      have := ih i (by simpa using h)
      rw [show 3 * (i + 1) = 3 * i + 1 + 1 + 1 from by omega, show 3 * i + 1 + 1 + 1 + 1 = 3 * i + 1 + 1 + 1 + 1 from rfl]
      exact this

/-- A row of things. -/
abbrev OwnT (w : World) (base : Nat) (v : Value) (L : List T3) : Prop := w.ownsRow base 118 3 v L.length (flatT L)

theorem OwnT.step {w1 wr w2 : World} {v v' : Value} {L : List T3} {t : T3} (hown : OwnT wr w1.heap.size v L) (hb : Kept w1 wr) (hown' : w2.ownsRow w1.heap.size 118 3 v' (L.length + 1) (flatT L ++ [.int .i64 t.k, .int .i64 t.a, .int .i64 t.b])) {o : Obj} (hgrow : (wr.alloc o).grownBy w2 v.ownBlock) : OwnT w2 w1.heap.size v' (L ++ [t]) ∧ Kept w1 w2 := by
  refine ⟨?_, (hb.alloc hb.size _).grown hgrow (by have := hb.size; simp; omega) (fun g hg => (ownsRow_base hown g hg).1)⟩
  rw [OwnT, flatT_append, List.length_append]
  exact hown'

theorem t3_cells (w : World) (a b d : Value) : ∀ (j : Nat) (u : Value), [a, b, d][j]? = some u → (w.alloc (.cells #[a, b, d] 118)).cell? ((⟨w.heap.size, 0, none⟩ : Addr).add j) = some u := by
  intro j u hj
  have h := Blk.new w 118 [a, b, d]
  match j, hj with
  | 0, hj => simp at hj; subst hj; exact h.cell 0
  | 1, hj => simp at hj; subst hj; simp [Addr.add]
  | 2, hj => simp at hj; subst hj; simp [Addr.add]

theorem t3_one (a b d : Int) : ∀ u ∈ ([.int .i64 a, .int .i64 b, .int .i64 d] : List Value), u.oneCell' = true := by
  intro u hu
  simp at hu
  rcases hu with rfl | rfl | rfl <;> rfl

/-- The rooms' row stays, while the things' row grows. -/
def NodeRow (w : World) (gr : Nat) (c : Cfg) (v : Value) : Prop := gr < w.heap.size ∧ (∀ b, v.ownBlock = some b → b ≠ gr) ∧ ∀ i, i < nN c → w.cell? ⟨gr, i, none⟩ = some (.int .i64 ((rooms c)[i]?.getD 0))

theorem cell_of_heap {w w' : World} {g i : Nat} (h : w'.heap[g]? = w.heap[g]?) : w'.cell? ⟨g, i, none⟩ = w.cell? ⟨g, i, none⟩ := by
  unfold World.cell?
  simp only [h]

theorem NodeRow.grown {w w2 : World} {gr gn : Nat} {c : Cfg} {v : Value} {n cap : Nat} {o : Obj} (h : NodeRow w gr c v) (hg : (w.alloc o).grownBy w2 v.ownBlock) (hl : v.ownBlock = some gn ∨ gn = w.heap.size + 1) : NodeRow w2 gr c (.slice (some ⟨gn, 0, none⟩) n cap) := by
  obtain ⟨h1, h2, h3⟩ := h
  have hc : Chg (fun q => v.ownBlock = some q) w w2 := ((Chg.refl _ w).alloc _).grown hg (fun q hq _ => hq)
  refine ⟨Nat.lt_of_lt_of_le h1 hc.size, fun b hb e => ?_, fun i hi => ?_⟩
  · simp [Value.ownBlock] at hb
    rcases hl with hl | hl
    · exact h2 gn hl (by omega)
    · omega
  · rw [← h3 i hi]
    exact cell_of_heap (hc.block gr h1 (fun hq => h2 gr hq rfl))

theorem ownsRow_kept' {w w' : World} {base : Nat} {e : TypeId} {size : Nat} {v : Value} {n : Nat} {xs : List Value} (h : w.ownsRow base e size v n xs) (k : Kept w w') : w'.ownsRow base e size v n xs :=
  ownsRow_chg h (Chg.ofBelow (S := fun _ => False) k) (fun _ _ => id)

theorem own_ne {w : World} {base gr : Nat} {v : Value} {L : List T3} (h : OwnT w base v L) (hg : w.heap.size ≤ gr) : ∀ b, v.ownBlock = some b → b ≠ gr := fun b hb e => by
  have := (ownsRow_base h b hb).2
  omega

theorem row_succ (f : Nat → T3) (n : Nat) : (List.range (n + 1)).map f = (List.range n).map f ++ [f n] := by simp [List.range_succ]

set_option maxRecDepth 8000 in
set_option maxHeartbeats 3200000 in
theorem all_ref (c : Cfg) (w : World) (hg : Good c) :
    Calls Try.prog 59 #[.agg #[.int .i64 c.c0, .int .i64 c.c1, .int .i64 c.c2, .int .i64 c.c3, .int .i64 c.c4, .int .i64 c.mks, .int .i64 c.mus, .int .i64 c.dq, .int .i64 c.ch, .int .i64 c.bu, .int .i64 c.ro, .int .i64 c.sw]] w fun r w' => ∃ v, r = .returned v ∧ OwnT w' w.heap.size v (allT c) ∧ Kept w w' := by
  have Hg : Hid (Good c) := hg
  obtain ⟨iT, hiT, hzT0, hzT1, hzT2⟩ := info_parts info_T
  have hb1 := Blk.new w 50 [.int .i64 c.c0, .int .i64 c.c1, .int .i64 c.c2, .int .i64 c.c3, .int .i64 c.c4, .int .i64 c.mks, .int .i64 c.mus, .int .i64 c.dq, .int .i64 c.ch, .int .i64 c.bu, .int .i64 c.ro, .int .i64 c.sw]
  have hk0 : Kept w (w.alloc (.cells ([.int .i64 c.c0, .int .i64 c.c1, .int .i64 c.c2, .int .i64 c.c3, .int .i64 c.c4, .int .i64 c.mks, .int .i64 c.mus, .int .i64 c.dq, .int .i64 c.ch, .int .i64 c.bu, .int .i64 c.ro, .int .i64 c.sw] : List Value).toArray 50)) := (Below.refl _ _).alloc (Nat.le_refl _) _
  have hn := nN_bound hg
  obtain ⟨hn0, hn1⟩ := hn
  have hmb := manyI_bound hg
  obtain ⟨hmb0, hmb1⟩ := hmb
  obtain ⟨_, _, _, _, _, ⟨hm0, hm1⟩, ⟨hu0, hu1⟩, ⟨hd0, hd1⟩, _⟩ := hg
  have HL : Hid (∀ L : List T3, L = (((((tOne ++ tAck c.mus.toNat) ++ tHead) ++ tDeq c.dq.toNat c.mks.toNat) ++ tPk (manyI c).toNat) ++ tNd (rooms c) (nN c)) → L = allT c) := fun L h => by rw [h]; simp [allT, List.append_assoc]
  obtain ⟨mks, hmks⟩ : ∃ m : Nat, c.mks = m := ⟨c.mks.toNat, by omega⟩
  obtain ⟨mus, hmus⟩ : ∃ m : Nat, c.mus = m := ⟨c.mus.toNat, by omega⟩
  obtain ⟨dq, hdq⟩ : ∃ m : Nat, c.dq = m := ⟨c.dq.toNat, by omega⟩
  obtain ⟨many, hmany⟩ : ∃ m : Nat, manyI c = m := ⟨(manyI c).toNat, by omega⟩
  rw [hmks] at hm0 hm1
  rw [hmus] at hu0 hu1
  rw [hdq] at hd0 hd1
  rw [hmany] at hmb0 hmb1
  have HMY : Hid (manyI c = many) := hmany
  have HMS : Hid (c.mks = mks) := hmks
  have HMU : Hid (c.mus = mus) := hmus
  have HDQ : Hid (c.dq = dq) := hdq
  have HL2 : Hid (∀ L : List T3, L = (((((tOne ++ tAck mus) ++ tHead) ++ tDeq dq mks) ++ tPk many) ++ tNd (rooms c) (nN c)) → L = allT c) := by
    have := HL.out
    rw [hmks, hmus, hdq, hmany] at this
    exact this
  clear HL hmany hmks hmus hdq
  go_enter Try.func59, Try.ntmps59
  go_wp2_with fail
  generalize w.alloc (.cells ([.int .i64 c.c0, .int .i64 c.c1, .int .i64 c.c2, .int .i64 c.c3, .int .i64 c.c4, .int .i64 c.mks, .int .i64 c.mus, .int .i64 c.dq, .int .i64 c.ch, .int .i64 c.bu, .int .i64 c.ro, .int .i64 c.sw] : List Value).toArray 50) = w1 at *
  rw [HMS.out, HMU.out, HDQ.out] at hb1
  go_loopw [3, 4] (fun v i wr => ∃ q : Nat, q ≤ 6 ∧ i = .int .i64 (q) ∧ OwnT wr w1.heap.size v ((List.range q).map fun (j : Nat) => (⟨j, 0, 0⟩ : T3)) ∧ Kept w1 wr) (fun _ i _ => 4000 - (intOf i).toNat)
  case atStart => exact ⟨0, by omega, rfl, World.ownsRow_nil _ _ _ _, Below.refl _ _⟩
  case round =>
    obtain ⟨q, hq, rfl, hown, hb⟩ := hrel
    by_cases hlt : q < 6
    · have hlti : (q : Int) < 6 := by omega
      have HS : Hid (((List.range (q + 1)).map fun (j : Nat) => (⟨j, 0, 0⟩ : T3)) = ((List.range q).map fun (j : Nat) => (⟨j, 0, 0⟩ : T3)) ++ [⟨q, 0, 0⟩]) := row_succ _ _
      have hln : ((List.range q).map fun (j : Nat) => (⟨j, 0, 0⟩ : T3)).length ≤ 100 := by simp; omega
      generalize ((List.range q).map fun (j : Nat) => (⟨j, 0, 0⟩ : T3)) = X at *
      go_wp2_with (at_builtin; refine wpList_append_own _ rfl _ _ 46 rfl w1.heap.size 118 iT (.agg #[.int .i64 0, .int .i64 0, .int .i64 0]) 3 24 Try.underlying46 hiT hzT0 hzT1 hzT2 rfl (by decide) _ _ _ rfl (World.ownsRow.alloc hown _) ⟨wr.heap.size, 0, none⟩ 1 1 [.int .i64 (q), .int .i64 (0), .int .i64 (0)] rfl rfl ?c1a ?c1b ?c1c ?c1d ?c1e ?_)
      case c1a => exact t3_cells _ _ _ _
      case c1b => exact t3_one _ _ _
      case c1c => unfold maxLen; omega
      case c1d => omega
      case c1e => have := hb.size; simp; omega
      intro v' w2 hown' hgrow _
      have hstep := OwnT.step (t := ⟨q, 0, 0⟩) hown hb hown' hgrow
      clear hown' hgrow hown hb
      obtain ⟨hown, hb⟩ := hstep
      go_wp2_with fail
      go_roundw
      case rel => exact ⟨q + 1, by omega, by go_num, by rw [HS.out]; exact hown, hb⟩
      case measure => simp [intOf]; omega
    · obtain rfl : q = 6 := by omega
      rw [show ((6 : Nat) : Int) = 6 from rfl]
      obtain ⟨L1, hL1⟩ : ∃ L : List T3, L = tOne := ⟨_, rfl⟩
      rw [show ((List.range 6).map fun (j : Nat) => (⟨j, 0, 0⟩ : T3)) = tOne from rfl] at hown
      rw [← hL1] at hown
      have HL1 : Hid (L1 = tOne) := hL1
      have lL1 : L1.length ≤ 6 := by rw [hL1]; simp [tOne]
      clear hL1
      go_wp2_with fail
      generalize wr = wq at *
      go_loopw [3, 5] (fun v i wr => ∃ q : Nat, q ≤ mus ∧ i = .int .i64 (q) ∧ OwnT wr w1.heap.size v (L1 ++ tAck q) ∧ Kept w1 wr) (fun _ i _ => 4000 - (intOf i).toNat)
      case atStart => exact ⟨0, by omega, rfl, by simpa [tAck] using hown, hb⟩
      case round =>
        obtain ⟨q, hq, rfl, hown, hb⟩ := hrel
        have hbc := hb.blk hb1
        have c6 := hbc.cell 6
        simp only [List.getElem?_cons_zero, List.getElem?_cons_succ] at c6
        by_cases hlt : q < mus
        · have hlti : (q : Int) < mus := by omega
          have HS : Hid (L1 ++ tAck (q + 1) = L1 ++ tAck q ++ [⟨6, q, 0⟩]) := by unfold Hid tAck; rw [row_succ, List.append_assoc]
          have hln : (L1 ++ tAck q).length ≤ 100 := by simp [tAck]; omega
          generalize (L1 ++ tAck q) = X at *
          go_wp2_with (at_builtin; refine wpList_append_own _ rfl _ _ 46 rfl w1.heap.size 118 iT (.agg #[.int .i64 0, .int .i64 0, .int .i64 0]) 3 24 Try.underlying46 hiT hzT0 hzT1 hzT2 rfl (by decide) _ _ _ rfl (World.ownsRow.alloc hown _) ⟨wr.heap.size, 0, none⟩ 1 1 [.int .i64 (6), .int .i64 (q), .int .i64 (0)] rfl rfl ?c2a ?c2b ?c2c ?c2d ?c2e ?_)
          case c2a => exact t3_cells _ _ _ _
          case c2b => exact t3_one _ _ _
          case c2c => unfold maxLen; omega
          case c2d => omega
          case c2e => have := hb.size; simp; omega
          intro v' w2 hown' hgrow _
          have hstep := OwnT.step (t := ⟨6, q, 0⟩) hown hb hown' hgrow
          clear hown' hgrow hown hb
          obtain ⟨hown, hb⟩ := hstep
          clear hbc c6
          go_wp2_with fail
          go_roundw
          case rel => exact ⟨q + 1, by omega, by go_num, by rw [HS.out]; exact hown, hb⟩
          case measure => simp [intOf]; omega
        · obtain rfl : q = mus := by omega
          obtain ⟨L2, hL2⟩ : ∃ L : List T3, L = L1 ++ tAck q := ⟨_, rfl⟩
          rw [← hL2] at hown
          have HL2' : Hid (L2 = L1 ++ tAck q) := hL2
          have lL2 : L2.length ≤ 10 := by rw [hL2]; simp [tAck]; omega
          clear hL2
          go_wp2_with fail
          clear hbc c6
          generalize wr = wq at *
          go_loopw [3, 6] (fun v i wr => ∃ q : Nat, q ≤ 5 ∧ i = .int .i64 (q) ∧ OwnT wr w1.heap.size v (L2 ++ (List.range q).map fun (j : Nat) => (⟨7, j, 0⟩ : T3)) ∧ Kept w1 wr) (fun _ i _ => 4000 - (intOf i).toNat)
          case atStart => exact ⟨0, by omega, rfl, by simpa using hown, hb⟩
          case round =>
            obtain ⟨q, hq, rfl, hown, hb⟩ := hrel
            by_cases hlt : q < 5
            · have hlti : (q : Int) < 5 := by omega
              have HS : Hid ((L2 ++ (List.range (q + 1)).map fun (j : Nat) => (⟨7, j, 0⟩ : T3)) = (L2 ++ (List.range q).map fun (j : Nat) => (⟨7, j, 0⟩ : T3)) ++ [⟨7, q, 0⟩]) := by unfold Hid; rw [row_succ, List.append_assoc]
              have hln : (L2 ++ (List.range q).map fun (j : Nat) => (⟨7, j, 0⟩ : T3)).length ≤ 100 := by simp; omega
              generalize (L2 ++ (List.range q).map fun (j : Nat) => (⟨7, j, 0⟩ : T3)) = X at *
              go_wp2_with (at_builtin; refine wpList_append_own _ rfl _ _ 46 rfl w1.heap.size 118 iT (.agg #[.int .i64 0, .int .i64 0, .int .i64 0]) 3 24 Try.underlying46 hiT hzT0 hzT1 hzT2 rfl (by decide) _ _ _ rfl (World.ownsRow.alloc hown _) ⟨wr.heap.size, 0, none⟩ 1 1 [.int .i64 (7), .int .i64 (q), .int .i64 (0)] rfl rfl ?c3a ?c3b ?c3c ?c3d ?c3e ?_)
              case c3a => exact t3_cells _ _ _ _
              case c3b => exact t3_one _ _ _
              case c3c => unfold maxLen; omega
              case c3d => omega
              case c3e => have := hb.size; simp; omega
              intro v' w2 hown' hgrow _
              have hstep := OwnT.step (t := ⟨7, q, 0⟩) hown hb hown' hgrow
              clear hown' hgrow hown hb
              obtain ⟨hown, hb⟩ := hstep
              go_wp2_with fail
              go_roundw
              case rel => exact ⟨q + 1, by omega, by go_num, by rw [HS.out]; exact hown, hb⟩
              case measure => simp [intOf]; omega
            · obtain rfl : q = 5 := by omega
              rw [show ((5 : Nat) : Int) = 5 from rfl]
              obtain ⟨L3, hL3⟩ : ∃ L : List T3, L = L2 ++ tHead := ⟨_, rfl⟩
              rw [show ((List.range 5).map fun (j : Nat) => (⟨7, j, 0⟩ : T3)) = tHead from rfl] at hown
              rw [← hL3] at hown
              have HL3 : Hid (L3 = L2 ++ tHead) := hL3
              have lL3 : L3.length ≤ 15 := by rw [hL3]; simp [tHead]; omega
              clear hL3
              go_wp2_with fail
              generalize wr = wq at *
              go_loopw [3, 7] (fun v i wr => ∃ q : Nat, q ≤ mks ∧ i = .int .i64 q ∧ OwnT wr w1.heap.size v (L3 ++ tDeq dq q) ∧ Kept w1 wr) (fun _ i _ => 4000 - (intOf i).toNat)
              case atStart => exact ⟨0, by omega, rfl, by simpa [tDeq] using hown, hb⟩
              case round =>
                obtain ⟨q, hq, rfl, hown, hb⟩ := hrel
                have hbc := hb.blk hb1
                have c5 := hbc.cell 5
                simp only [List.getElem?_cons_zero, List.getElem?_cons_succ] at c5
                by_cases hlt : q < mks
                · have hlti : (q : Int) < mks := by omega
                  have hql : q * (2 + dq) ≤ 3 * (2 + dq) := Nat.mul_le_mul_right _ (by omega)
                  have hln : (L3 ++ tDeq dq q).length ≤ 100 := by rw [List.length_append, tDeq_len]; omega
                  have HS : Hid (L3 ++ tDeq dq (q + 1) = (L3 ++ tDeq dq q ++ [⟨8, q, 0⟩] ++ [⟨9, q, 0⟩]) ++ tEntry q dq) := by unfold Hid; rw [tDeq_succ, tDeq1]; simp [List.append_assoc]
                  generalize L3 ++ tDeq dq q = X at *
                  go_wp2_with (at_builtin; refine wpList_append_own _ rfl _ _ 46 rfl w1.heap.size 118 iT (.agg #[.int .i64 0, .int .i64 0, .int .i64 0]) 3 24 Try.underlying46 hiT hzT0 hzT1 hzT2 rfl (by decide) _ _ _ rfl (World.ownsRow.alloc hown _) ⟨wr.heap.size, 0, none⟩ 1 1 [.int .i64 (8), .int .i64 (q), .int .i64 (0)] rfl rfl ?c4a ?c4b ?c4c ?c4d ?c4e ?_)
                  case c4a => exact t3_cells _ _ _ _
                  case c4b => exact t3_one _ _ _
                  case c4c => unfold maxLen; omega
                  case c4d => omega
                  case c4e => have := hb.size; simp; omega
                  intro v' w2 hown' hgrow _
                  have hstep := OwnT.step (t := ⟨8, q, 0⟩) hown hb hown' hgrow
                  clear hown' hgrow hown hb
                  obtain ⟨hown, hb⟩ := hstep
                  obtain ⟨X1, hX1⟩ : ∃ L : List T3, L = X ++ [⟨8, q, 0⟩] := ⟨_, rfl⟩
                  rw [← hX1] at hown HS
                  have hln2 : X1.length ≤ 101 := by rw [hX1]; simp; omega
                  clear hX1
                  go_wp2_with (at_builtin; refine wpList_append_own _ rfl _ _ 46 rfl w1.heap.size 118 iT (.agg #[.int .i64 0, .int .i64 0, .int .i64 0]) 3 24 Try.underlying46 hiT hzT0 hzT1 hzT2 rfl (by decide) _ _ _ rfl (World.ownsRow.alloc hown _) ⟨w2.heap.size, 0, none⟩ 1 1 [.int .i64 (9), .int .i64 (q), .int .i64 (0)] rfl rfl ?c5a ?c5b ?c5c ?c5d ?c5e ?_)
                  case c5a => exact t3_cells _ _ _ _
                  case c5b => exact t3_one _ _ _
                  case c5c => unfold maxLen; omega
                  case c5d => omega
                  case c5e => have := hb.size; simp; omega
                  intro v' w3 hown' hgrow _
                  have hstep := OwnT.step (t := ⟨9, q, 0⟩) hown hb hown' hgrow
                  clear hown' hgrow hown hb
                  obtain ⟨hown, hb⟩ := hstep
                  obtain ⟨Y, hY⟩ : ∃ L : List T3, L = X1 ++ [⟨9, q, 0⟩] := ⟨_, rfl⟩
                  rw [← hY] at hown HS
                  have hln3 : Y.length ≤ 102 := by rw [hY]; simp; omega
                  clear hY
                  clear hbc c5 hln hln2
                  go_wp2_with fail
                  generalize w3 = wq at *
                  go_loopw [3, 8] (fun v i wr => ∃ j : Nat, j ≤ dq ∧ i = .int .i64 j ∧ OwnT wr w1.heap.size v (Y ++ tEntry q j) ∧ Kept w1 wr) (fun _ i _ => 4000 - (intOf i).toNat)
                  case atStart => exact ⟨0, by omega, rfl, by simpa [tEntry] using hown, hb⟩
                  case round =>
                    obtain ⟨j, hj, rfl, hown, hb⟩ := hrel
                    have hbc := hb.blk hb1
                    have c7 := hbc.cell 7
                    simp only [List.getElem?_cons_zero, List.getElem?_cons_succ] at c7
                    by_cases hjl : j < dq
                    · have hlti2 : (j : Int) < dq := by omega
                      have HE : Hid (Y ++ tEntry q (j + 1) = Y ++ tEntry q j ++ [⟨10, q, j⟩]) := by unfold Hid tEntry; rw [row_succ, List.append_assoc]
                      have hln : (Y ++ tEntry q j).length ≤ 200 := by simp [tEntry]; omega
                      generalize (Y ++ tEntry q j) = Z at *
                      go_wp2_with (at_builtin; refine wpList_append_own _ rfl _ _ 46 rfl w1.heap.size 118 iT (.agg #[.int .i64 0, .int .i64 0, .int .i64 0]) 3 24 Try.underlying46 hiT hzT0 hzT1 hzT2 rfl (by decide) _ _ _ rfl (World.ownsRow.alloc hown _) ⟨wr.heap.size, 0, none⟩ 1 1 [.int .i64 (10), .int .i64 (q), .int .i64 (j)] rfl rfl ?c6a ?c6b ?c6c ?c6d ?c6e ?_)
                      case c6a => exact t3_cells _ _ _ _
                      case c6b => exact t3_one _ _ _
                      case c6c => unfold maxLen; omega
                      case c6d => omega
                      case c6e => have := hb.size; simp; omega
                      intro v' w4 hown' hgrow _
                      have hstep := OwnT.step (t := ⟨10, q, j⟩) hown hb hown' hgrow
                      clear hown' hgrow hown hb
                      obtain ⟨hown, hb⟩ := hstep
                      clear hbc c7
                      go_wp2_with fail
                      go_roundw
                      case rel => exact ⟨j + 1, by omega, by go_num, by rw [HE.out]; exact hown, hb⟩
                      case measure => simp [intOf]; omega
                    · obtain rfl : j = dq := by omega
                      go_wp2_with fail
                      clear hbc c7
                      go_roundw
                      case rel => exact ⟨q + 1, by omega, by go_num, by rw [HS.out]; exact hown, hb⟩
                      case measure => simp [intOf]; omega
                · obtain rfl : q = mks := by omega
                  obtain ⟨L4, hL4⟩ : ∃ L : List T3, L = L3 ++ tDeq dq q := ⟨_, rfl⟩
                  rw [← hL4] at hown
                  have HL4 : Hid (L4 = L3 ++ tDeq dq q) := hL4
                  have lL4 : L4.length ≤ 100 := by rw [hL4]; rw [List.length_append, tDeq_len]; have : q * (2 + dq) ≤ 4 * (2 + dq) := Nat.mul_le_mul_right _ (by omega); omega
                  clear hL4
                  clear hbc c5
                  have hbc := hb.blk hb1
                  have c0 := hbc.cell 0
                  have c1 := hbc.cell 1
                  have c2 := hbc.cell 2
                  have c3 := hbc.cell 3
                  have c4 := hbc.cell 4
                  have c5 := hbc.cell 5
                  have c6 := hbc.cell 6
                  have c7 := hbc.cell 7
                  have c8 := hbc.cell 8
                  have c9 := hbc.cell 9
                  have c10 := hbc.cell 10
                  have c11 := hbc.cell 11
                  simp only [List.getElem?_cons_zero, List.getElem?_cons_succ] at c0 c1 c2 c3 c4 c5 c6 c7 c8 c9 c10 c11
                  go_wp2_with fail
                  clear hbc c0 c1 c2 c3 c4 c5 c6 c7 c8 c9 c10 c11
                  generalize wr = wq at *
                  have CP : Calls Try.prog 60 #[.agg #[.int .i64 c.c0, .int .i64 c.c1, .int .i64 c.c2, .int .i64 c.c3, .int .i64 c.c4, .int .i64 c.mks, .int .i64 c.mus, .int .i64 c.dq, .int .i64 c.ch, .int .i64 c.bu, .int .i64 c.ro, .int .i64 c.sw]] wq fun r w' => r = .returned (.int .i64 many) ∧ Kept wq w' := by rw [← HMY.out]; exact packets_ref c wq Hg.out
                  rw [HMS.out, HMU.out, HDQ.out] at CP
                  refine CP.mono ?_; rintro e wa ⟨rfl, hka⟩
                  replace hown := ownsRow_kept' hown hka
                  replace hb := hb.trans' hka
                  clear CP hka
                  go_wp2_with fail
                  generalize wa = wq at *
                  go_loopw [3, 10] (fun v i wr => ∃ q : Nat, q ≤ many ∧ i = .int .i64 ((q : Int) + 1) ∧ OwnT wr w1.heap.size v (L4 ++ tPk q) ∧ Kept w1 wr) (fun _ i _ => 4000 - (intOf i).toNat)
                  case atStart => exact ⟨0, by omega, rfl, by simpa [tPk] using hown, hb⟩
                  case round =>
                    obtain ⟨q, hq, rfl, hown, hb⟩ := hrel
                    by_cases hlt : q < many
                    · have hlti : (q : Int) + 1 ≤ many := by omega
                      have hln : (L4 ++ tPk q).length ≤ 13000 := by rw [List.length_append, tPk_len]; omega
                      have HS : Hid (L4 ++ tPk (q + 1) = (L4 ++ tPk q ++ [⟨11, (q : Int) + 1, 0⟩] ++ [⟨12, (q : Int) + 1, 0⟩]) ++ tTask ((q : Int) + 1) 4) := by unfold Hid; rw [tPk_succ, tPk1]; simp [List.append_assoc]
                      generalize L4 ++ tPk q = X at *
                      obtain ⟨p, hp⟩ : ∃ p : Int, (q : Int) + 1 = p := ⟨_, rfl⟩
                      rw [hp] at HS hlti ⊢
                      go_wp2_with (at_builtin; refine wpList_append_own _ rfl _ _ 46 rfl w1.heap.size 118 iT (.agg #[.int .i64 0, .int .i64 0, .int .i64 0]) 3 24 Try.underlying46 hiT hzT0 hzT1 hzT2 rfl (by decide) _ _ _ rfl (World.ownsRow.alloc hown _) ⟨wr.heap.size, 0, none⟩ 1 1 [.int .i64 (11), .int .i64 (p), .int .i64 (0)] rfl rfl ?c7a ?c7b ?c7c ?c7d ?c7e ?_)
                      case c7a => exact t3_cells _ _ _ _
                      case c7b => exact t3_one _ _ _
                      case c7c => unfold maxLen; omega
                      case c7d => omega
                      case c7e => have := hb.size; simp; omega
                      intro v' w2 hown' hgrow _
                      have hstep := OwnT.step (t := ⟨11, p, 0⟩) hown hb hown' hgrow
                      clear hown' hgrow hown hb
                      obtain ⟨hown, hb⟩ := hstep
                      obtain ⟨X1, hX1⟩ : ∃ L : List T3, L = X ++ [⟨11, p, 0⟩] := ⟨_, rfl⟩
                      rw [← hX1] at hown HS
                      have hln2 : X1.length ≤ 13001 := by rw [hX1]; simp; omega
                      clear hX1
                      go_wp2_with (at_builtin; refine wpList_append_own _ rfl _ _ 46 rfl w1.heap.size 118 iT (.agg #[.int .i64 0, .int .i64 0, .int .i64 0]) 3 24 Try.underlying46 hiT hzT0 hzT1 hzT2 rfl (by decide) _ _ _ rfl (World.ownsRow.alloc hown _) ⟨w2.heap.size, 0, none⟩ 1 1 [.int .i64 (12), .int .i64 (p), .int .i64 (0)] rfl rfl ?c8a ?c8b ?c8c ?c8d ?c8e ?_)
                      case c8a => exact t3_cells _ _ _ _
                      case c8b => exact t3_one _ _ _
                      case c8c => unfold maxLen; omega
                      case c8d => omega
                      case c8e => have := hb.size; simp; omega
                      intro v' w3 hown' hgrow _
                      have hstep := OwnT.step (t := ⟨12, p, 0⟩) hown hb hown' hgrow
                      clear hown' hgrow hown hb
                      obtain ⟨hown, hb⟩ := hstep
                      obtain ⟨Y, hY⟩ : ∃ L : List T3, L = X1 ++ [⟨12, p, 0⟩] := ⟨_, rfl⟩
                      rw [← hY] at hown HS
                      have hln3 : Y.length ≤ 13002 := by rw [hY]; simp; omega
                      clear hY
                      clear hln hln2
                      go_wp2_with fail
                      generalize w3 = wq at *
                      go_loopw [3, 11] (fun v i wr => ∃ j : Nat, j ≤ 4 ∧ i = .int .i64 j ∧ OwnT wr w1.heap.size v (Y ++ tTask p j) ∧ Kept w1 wr) (fun _ i _ => 4000 - (intOf i).toNat)
                      case atStart => exact ⟨0, by omega, rfl, by simpa [tTask] using hown, hb⟩
                      case round =>
                        obtain ⟨j, hj, rfl, hown, hb⟩ := hrel
                        by_cases hjl : j < 4
                        · have hlti2 : (j : Int) < 4 := by omega
                          have HE : Hid (Y ++ tTask p (j + 1) = Y ++ tTask p j ++ [⟨13, p, j⟩]) := by unfold Hid tTask; rw [row_succ, List.append_assoc]
                          have hln : (Y ++ tTask p j).length ≤ 13100 := by simp [tTask]; omega
                          generalize (Y ++ tTask p j) = Z at *
                          go_wp2_with (at_builtin; refine wpList_append_own _ rfl _ _ 46 rfl w1.heap.size 118 iT (.agg #[.int .i64 0, .int .i64 0, .int .i64 0]) 3 24 Try.underlying46 hiT hzT0 hzT1 hzT2 rfl (by decide) _ _ _ rfl (World.ownsRow.alloc hown _) ⟨wr.heap.size, 0, none⟩ 1 1 [.int .i64 (13), .int .i64 (p), .int .i64 (j)] rfl rfl ?c9a ?c9b ?c9c ?c9d ?c9e ?_)
                          case c9a => exact t3_cells _ _ _ _
                          case c9b => exact t3_one _ _ _
                          case c9c => unfold maxLen; omega
                          case c9d => omega
                          case c9e => have := hb.size; simp; omega
                          intro v' w4 hown' hgrow _
                          have hstep := OwnT.step (t := ⟨13, p, j⟩) hown hb hown' hgrow
                          clear hown' hgrow hown hb
                          obtain ⟨hown, hb⟩ := hstep
                          go_wp2_with fail
                          go_roundw
                          case rel => exact ⟨j + 1, by omega, by go_num, by rw [HE.out]; exact hown, hb⟩
                          case measure => simp [intOf]; omega
                        · obtain rfl : j = 4 := by omega
                          have yp : IntKind.i64.wrap (p + 1) = p + 1 := IntWalk.i64_in _ (by omega)
                          go_wp2_with fail
                          go_roundw
                          case rel => exact ⟨q + 1, by omega, by rw [← hp]; go_num, by rw [HS.out]; exact hown, hb⟩
                          case measure => simp [intOf]; omega
                    · obtain rfl : q = many := by omega
                      obtain ⟨L5, hL5⟩ : ∃ L : List T3, L = L4 ++ tPk q := ⟨_, rfl⟩
                      rw [← hL5] at hown
                      have HL5 : Hid (L5 = L4 ++ tPk q) := hL5
                      have lL5 : L5.length ≤ 13000 := by rw [hL5]; rw [List.length_append, tPk_len]; omega
                      clear hL5
                      have hbc := hb.blk hb1
                      have c0 := hbc.cell 0
                      have c1 := hbc.cell 1
                      have c2 := hbc.cell 2
                      have c3 := hbc.cell 3
                      have c4 := hbc.cell 4
                      have c5 := hbc.cell 5
                      have c6 := hbc.cell 6
                      have c7 := hbc.cell 7
                      have c8 := hbc.cell 8
                      have c9 := hbc.cell 9
                      have c10 := hbc.cell 10
                      have c11 := hbc.cell 11
                      simp only [List.getElem?_cons_zero, List.getElem?_cons_succ] at c0 c1 c2 c3 c4 c5 c6 c7 c8 c9 c10 c11
                      go_wp2_with fail
                      clear hbc c0 c1 c2 c3 c4 c5 c6 c7 c8 c9 c10 c11
                      generalize wr = wq at *
                      have CR : Calls Try.prog 81 #[.agg #[.int .i64 c.c0, .int .i64 c.c1, .int .i64 c.c2, .int .i64 c.c3, .int .i64 c.c4, .int .i64 c.mks, .int .i64 c.mus, .int .i64 c.dq, .int .i64 c.ch, .int .i64 c.bu, .int .i64 c.ro, .int .i64 c.sw]] wq fun r w' => ∃ v, r = .returned v ∧ w'.ownsRow wq.heap.size 3 1 v (rooms c).length ((rooms c).map (Value.int .i64)) ∧ Kept wq w' := rooms_ref c wq Hg.out
                      rw [HMS.out, HMU.out, HDQ.out] at CR
                      refine CR.mono ?_; rintro e wa ⟨vr, rfl, hrow, hka⟩
                      obtain ⟨ao, cap, rfl, hcells⟩ := row_nums hrow
                      rw [show (rooms c).length = nN c from rfl] at hcells ⊢
                      obtain ⟨gr, rfl, hgr, _⟩ := hcells 0 (by omega)
                      have HG : Hid (∀ i, i < nN c → wa.cell? ⟨gr, i, none⟩ = some (.int .i64 ((rooms c)[i]?.getD 0))) := fun i hi => by obtain ⟨g, e, _, h⟩ := hcells i hi; simp at e; rw [← e] at h; exact h
                      have hgq := (ownsRow_base hrow gr rfl).1
                      have hng := own_ne hown hgq
                      replace hown := ownsRow_kept' hown hka
                      replace hb := hb.trans' hka
                      have HNR : Hid (NodeRow wa gr c _) := ⟨hgr, hng, HG.out⟩
                      clear CR hka hcells hrow hng HG
                      go_wp2_with fail
                      go_loopw [3, 13] (fun v i wr => ∃ q : Nat, q ≤ nN c ∧ i = .int .i64 ((q : Int) + 1) ∧ OwnT wr w1.heap.size v (L5 ++ tNd (rooms c) q) ∧ Kept w1 wr ∧ NodeRow wr gr c v) (fun _ i _ => 4000 - (intOf i).toNat)
                      case atStart => exact ⟨0, by omega, rfl, by simpa [tNd] using hown, hb, HNR.out⟩
                      case round =>
                        obtain ⟨q, hq, rfl, hown, hb, hnr⟩ := hrel
                        by_cases hlt : q < nN c
                        · have hlti : (q : Int) + 1 ≤ nN c := by omega
                          have hln : (L5 ++ tNd (rooms c) q).length ≤ 14300 := by have h1 := tNd_len (c := c) q (by omega); have h2 := at_bound c Hg.out q; rw [List.length_append]; omega
                          have HS : Hid (L5 ++ tNd (rooms c) (q + 1) = (L5 ++ tNd (rooms c) q ++ tWord ((q : Int) + 1) 4) ++ tSlot ((q : Int) + 1) ((rooms c)[q]?.getD 0).toNat) := by unfold Hid; rw [tNd_succ, tNd1]; simp [List.append_assoc]
                          obtain ⟨r, hr⟩ : ∃ r : Nat, (rooms c)[q]?.getD 0 = (r : Int) := ⟨((rooms c)[q]?.getD 0).toNat, by have := rooms_get hlt; omega⟩
                          have hrb := rooms_get hlt
                          rw [hr] at hrb HS
                          have HR : Hid ((rooms c)[q]?.getD 0 = (r : Int)) := hr
                          rw [Int.toNat_natCast] at HS
                          clear hr
                          generalize L5 ++ tNd (rooms c) q = X at *
                          obtain ⟨p, hp⟩ : ∃ p : Int, (q : Int) + 1 = p := ⟨_, rfl⟩
                          rw [hp] at HS hlti ⊢
                          have HP : Hid ((q : Int) + 1 = p) := hp
                          have yp0 : IntKind.i64.wrap (p - 1) = q := by rw [← hp, show (q : Int) + 1 - 1 = q from by omega]; exact IntWalk.i64_in _ (by omega)
                          have yp1 : IntKind.i64.wrap (p + 1) = p + 1 := IntWalk.i64_in _ (by omega)
                          clear hp
                          go_wp2_with fail
                          generalize wr = wq at *
                          go_loopw [3, 14] (fun v i wr => ∃ j : Nat, j ≤ 4 ∧ i = .int .i64 (14 + (j : Int)) ∧ OwnT wr w1.heap.size v (X ++ tWord p j) ∧ Kept w1 wr ∧ NodeRow wr gr c v) (fun _ i _ => 4000 - (intOf i).toNat)
                          case atStart => exact ⟨0, by omega, rfl, by simpa [tWord] using hown, hb, hnr⟩
                          case round =>
                            obtain ⟨j, hj, rfl, hown, hb, hnr⟩ := hrel
                            by_cases hjl : j < 4
                            · have hlti2 : 14 + (j : Int) < 18 := by omega
                              have HE : Hid (X ++ tWord p (j + 1) = X ++ tWord p j ++ [⟨14 + (j : Int), p, 0⟩]) := by unfold Hid tWord; rw [row_succ, List.append_assoc]
                              have hln2 : (X ++ tWord p j).length ≤ 14310 := by simp [tWord]; omega
                              obtain ⟨kk, hkk⟩ : ∃ kk : Int, 14 + (j : Int) = kk := ⟨_, rfl⟩
                              rw [hkk] at HE hlti2 ⊢
                              have HK : Hid (14 + (j : Int) = kk) := hkk
                              have ykk : IntKind.i64.wrap (kk + 1) = kk + 1 := IntWalk.i64_in _ (by omega)
                              clear hkk
                              generalize (X ++ tWord p j) = Z at *
                              go_wp2_with (at_builtin; refine wpList_append_lies _ rfl _ _ 46 rfl w1.heap.size 118 iT (.agg #[.int .i64 0, .int .i64 0, .int .i64 0]) 3 24 Try.underlying46 hiT hzT0 hzT1 hzT2 rfl (by decide) _ _ _ rfl (World.ownsRow.alloc hown _) ⟨wr.heap.size, 0, none⟩ 1 1 [.int .i64 (kk), .int .i64 (p), .int .i64 (0)] rfl rfl ?c10a ?c10b (by omega) ?c10c ?c10d ?c10e _ rfl ?_)
                              case c10a => exact t3_cells _ _ _ _
                              case c10b => exact t3_one _ _ _
                              case c10c => unfold maxLen; omega
                              case c10d => omega
                              case c10e => have := hb.size; simp; omega
                              intro gn cpn w4 hown' hgrow hlies hgl
                              have hnr2 := hnr.grown (n := Z.length + 1) (cap := cpn) hgrow hlies
                              have hstep := OwnT.step (t := ⟨kk, p, 0⟩) hown hb hown' hgrow
                              clear hown' hgrow hlies hgl hnr hown hb
                              obtain ⟨hown, hb⟩ := hstep
                              have hnr := hnr2
                              clear hnr2
                              go_wp2_with fail
                              go_roundw
                              case rel => exact ⟨j + 1, by omega, by have := HK.out; congr 1; push_cast; omega, by rw [HE.out]; exact hown, hb, hnr⟩
                              case measure => have := HK.out; simp [intOf]; omega
                            · obtain rfl : j = 4 := by omega
                              rw [show 14 + ((4 : Nat) : Int) = 18 from rfl]
                              have hlnY : (X ++ tWord p 4).length ≤ 14310 := by simp [tWord]; omega
                              generalize X ++ tWord p 4 = Y at *
                              go_wp2_with fail
                              generalize wr = wq2 at *
                              go_loopw [3, 15] (fun v i wr => ∃ j : Nat, j ≤ r ∧ i = .int .i64 j ∧ OwnT wr w1.heap.size v (Y ++ tSlot p j) ∧ Kept w1 wr ∧ NodeRow wr gr c v) (fun _ i _ => 4000 - (intOf i).toNat)
                              case atStart => exact ⟨0, by omega, rfl, by simpa [tSlot] using hown, hb, hnr⟩
                              case round =>
                                obtain ⟨j, hj, rfl, hown, hb, hnr⟩ := hrel
                                have hrc : wr.cell? ⟨gr, q, none⟩ = some (.int .i64 r) := by rw [← HR.out]; exact hnr.2.2 q hlt
                                have hqn : (q : Int) < nN c := by omega
                                have hq0 : (0 : Int) ≤ q := by omega
                                by_cases hjr : j < r
                                · have hlti3 : (j : Int) < r := by omega
                                  have HE : Hid (Y ++ tSlot p (j + 1) = Y ++ tSlot p j ++ [⟨18, p, j⟩]) := by unfold Hid tSlot; rw [row_succ, List.append_assoc]
                                  have hln3 : (Y ++ tSlot p j).length ≤ 14340 := by simp [tSlot]; omega
                                  generalize (Y ++ tSlot p j) = Z at *
                                  go_wp2_with (at_builtin; refine wpList_append_lies _ rfl _ _ 46 rfl w1.heap.size 118 iT (.agg #[.int .i64 0, .int .i64 0, .int .i64 0]) 3 24 Try.underlying46 hiT hzT0 hzT1 hzT2 rfl (by decide) _ _ _ rfl (World.ownsRow.alloc hown _) ⟨wr.heap.size, 0, none⟩ 1 1 [.int .i64 (18), .int .i64 (p), .int .i64 (j)] rfl rfl ?c11a ?c11b (by omega) ?c11c ?c11d ?c11e _ rfl ?_)
                                  case c11a => exact t3_cells _ _ _ _
                                  case c11b => exact t3_one _ _ _
                                  case c11c => unfold maxLen; omega
                                  case c11d => omega
                                  case c11e => have := hb.size; simp; omega
                                  intro gn cpn w5 hown' hgrow hlies hgl
                                  have hnr2 := hnr.grown (n := Z.length + 1) (cap := cpn) hgrow hlies
                                  have hstep := OwnT.step (t := ⟨18, p, j⟩) hown hb hown' hgrow
                                  clear hown' hgrow hlies hgl hnr hown hb
                                  obtain ⟨hown, hb⟩ := hstep
                                  have hnr := hnr2
                                  clear hnr2
                                  go_wp2_with fail
                                  go_roundw
                                  case rel => exact ⟨j + 1, by omega, by go_num, by rw [HE.out]; exact hown, hb, hnr⟩
                                  case measure => simp [intOf]; omega
                                · obtain rfl : j = r := by omega
                                  go_wp2_with fail
                                  go_roundw
                                  case rel => exact ⟨q + 1, by omega, by have := HP.out; congr 1; push_cast; omega, by rw [HS.out]; exact hown, hb, hnr⟩
                                  case measure => have := HP.out; simp [intOf]; omega
                        · obtain rfl : q = nN c := by omega
                          have hall := HL2.out _ (show L5 ++ tNd (rooms c) (nN c) = _ by rw [HL5.out, HL4.out, HL3.out, HL2'.out, HL1.out])
                          rw [hall] at hown
                          go_wp2_with fail
                          go_ret
                          exact ⟨_, rfl, ownsRow_mono hown (by have := hk0.size; omega), hk0.trans' hb⟩

end Go.Proofs.Ytcejleaedlflaaa
