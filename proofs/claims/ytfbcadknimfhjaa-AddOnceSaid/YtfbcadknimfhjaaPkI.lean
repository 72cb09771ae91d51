/- Chapter 13's example: what it comes to, as plain numbers. No program. Tasks that are put somewhere one at a time: plain numbers. No program. -/
import Derived.Test.YtfbcadknimfhjaaPkF
import Derived.Test.YtfbcadknimfhjaaPkH
namespace Go.Proofs.Ytfbcadknimfhjaa
open Go.RowKit

/-- The example's configuration. -/
def cB : Cfg := ⟨2, 0, 0, 0, 0, 1, 1, 2, 1, 1, 1, 1⟩

theorem cB_good : Good cB := by decide

def b0B : List Int × AM := (firstL cB, newAM cB 0 5)
def b1B : List Int × AM := ((amRun cB 0 19 b0B).1, newAM cB 0 6)
def b2B : List Int × AM := ((amRun cB 0 19 b1B).1, newAM cB 0 7)

theorem bw0 : (∀ k, k < 3 → (amRun cB 0 (k + 1) b0B).2.pc.fin = false) ∧ (amRun cB 0 4 b0B).2.pc.fin = true := of_decide_eq_true (by kernel_rfl)
theorem bw1 : (∀ k, k < 3 → (amRun cB 0 (k + 1) b1B).2.pc.fin = false) ∧ (amRun cB 0 4 b1B).2.pc.fin = true := of_decide_eq_true (by kernel_rfl)
theorem bw2 : (∀ k, k < 9 → (amRun cB 0 (k + 1) b2B).2.pc.fin = false) ∧ (amRun cB 0 10 b2B).2.pc.fin = true := of_decide_eq_true (by kernel_rfl)
theorem bw3 : heldL cB (amRun cB 0 19 b2B).1 = [7] ∧ (amRun cB 0 19 b2B).2.spilled = true := of_decide_eq_true (by kernel_rfl)

/-- How many steps. -/
theorem am_count {c : Cfg} {i : Int} {x : List Int × AM} {N K : Nat} (h : (∀ k, k < N → (amRun c i (k + 1) x).2.pc.fin = false) ∧ (amRun c i (N + 1) x).2.pc.fin = true) (hN : N < 19) (h1 : 1 ≤ K) (h3 : ∀ k, 1 ≤ k → k < K → (amRun c i k x).2.pc.fin = false) (h4 : K < 20 → (amRun c i K x).2.pc.fin = true) : K = N + 1 := by
  rcases Nat.lt_trichotomy K (N + 1) with hk | hk | hk
  · have a := h.1 (K - 1) (by omega)
    rw [show K - 1 + 1 = K from by omega] at a
    have b := h4 (by omega)
    rw [a] at b; cases b
  · exact hk
  · have a := h3 (N + 1) (by omega) hk
    rw [a] at h
    exact absurd h.2 (by simp)

end Go.Proofs.Ytfbcadknimfhjaa

namespace Go.Proofs.Ytfbcadknimfhjaa
open Go.RowKit

/-- Tasks that a marker put somewhere: the deque's, the pool's. -/
structure AInv (c : Cfg) (k : Int) (mem : List Int) (ts P S : List Int) : Prop where
  inv : Inv c mem P S
  top : mget mem (pEnd c k 0) = 0
  bot : mget mem (pEnd c k 1) = min (ts.length : Int) c.dq
  ents : ∀ j : Nat, j < ts.length → (j : Int) < c.dq → mget mem (pEnd c k (2 + j)) = ts[j]?.getD 0
  pool : (P.length : Int) = max (ts.length - c.dq) 0
  cont : ∀ q : Nat, q < P.length → Content c mem (P[q]?.getD 0) [ts[ts.length - 1 - q]?.getD 0]
  all : (P.length : Int) + S.length = manyI c

theorem pEnd_is {c : Cfg} (hg : Good c) {k j : Int} (hk : 0 ≤ k ∧ k < c.mks) (h1 : 0 ≤ j) (h2 : j < 2 + c.dq) : pEnd c k j = dqsI c + k * (2 + c.dq) + j ∧ 12 ≤ pEnd c k j ∧ pEnd c k j < pksI c := by
  have hd := dqs_bound hg
  have hm : 1 ≤ c.mks ∧ c.mks ≤ 4 := by unfold Good at hg; omega
  have hq : 2 ≤ c.dq ∧ c.dq ≤ 8 := by unfold Good at hg; omega
  have h3 : 0 ≤ k * (2 + c.dq) := Int.mul_nonneg hk.1 (by omega)
  have h4 : k * (2 + c.dq) ≤ (c.mks - 1) * (2 + c.dq) := Int.mul_le_mul_of_nonneg_right (by omega) (by omega)
  have h5 : (c.mks - 1) * (2 + c.dq) = c.mks * (2 + c.dq) - (2 + c.dq) := by rw [Int.sub_mul]; omega
  have h6 : pksI c = dqsI c + c.mks * (2 + c.dq) := rfl
  unfold pEnd
  rw [if_pos hk]
  refine ⟨rfl, by omega, by omega⟩

theorem pEnd_lt {c : Cfg} (hg : Good c) {k j : Int} (hk : 0 ≤ k ∧ k < c.mks) (h1 : 0 ≤ j) (h2 : j < 2 + c.dq) : pEnd c k j < allI c ∧ ∀ p i, 1 ≤ p → p ≤ manyI c → 0 ≤ i → i ≤ 5 → pEnd c k j ≠ pPack c p i := by
  have h := pEnd_is hg hk h1 h2
  have hn := node0_bound hg
  have hp : ∀ p i, 1 ≤ p → p ≤ manyI c → 0 ≤ i → i ≤ 5 → pksI c ≤ pPack c p i ∧ pPack c p i < allI c := fun p i p1 p2 i1 i2 => by
    have := pack_is hg p1 p2 i1 i2
    omega
  have hmb := manyI_bound hg
  refine ⟨?_, fun p i p1 p2 i1 i2 => ?_⟩
  · have := hp 1 0 (by omega) (by omega) (by omega) (by omega); omega
  · have := hp p i p1 p2 i1 i2; omega

section own
variable {c : Cfg} {k : Int} {mem : List Int} {x b t : Int}

theorem ow_bottom {pm : PM} {sp : Bool} {b t o : Int} {wn : Bool} : amStep c k mem ⟨.own, x, ⟨.pushBottom, b, t, x, o, wn⟩, pm, sp⟩ = (mem, ⟨.own, x, ⟨.pushTop, mget mem (pEnd c k 1), t, x, o, wn⟩, pm, sp⟩) := by
  simp [amStep, dqStep, DPc.fin, endsOf]
theorem ow_top {pm : PM} {sp : Bool} {b t o : Int} {wn : Bool} (h : ¬ aheadI b (mget mem (pEnd c k 0)) ≥ max c.dq 1) : amStep c k mem ⟨.own, x, ⟨.pushTop, b, t, x, o, wn⟩, pm, sp⟩ = (mem, ⟨.own, x, ⟨.pushEntry, b, mget mem (pEnd c k 0), x, o, wn⟩, pm, sp⟩) := by
  simp [amStep, dqStep, endsOf, if_neg h, DPc.fin]
theorem ow_full {pm : PM} {sp : Bool} {b t o : Int} {wn : Bool} (h : aheadI b (mget mem (pEnd c k 0)) ≥ max c.dq 1) : amStep c k mem ⟨.own, x, ⟨.pushTop, b, t, x, o, wn⟩, pm, sp⟩ = (mem, ⟨.pool, x, ⟨.done, b, mget mem (pEnd c k 0), 0, 2, wn⟩, putOne x, true⟩) := by
  simp [amStep, dqStep, endsOf, if_pos h, DPc.fin]
theorem ow_entry {pm : PM} {sp : Bool} {b t o : Int} {wn : Bool} : amStep c k mem ⟨.own, x, ⟨.pushEntry, b, t, x, o, wn⟩, pm, sp⟩ = (mput mem (entI (endsOf c k) b) x, ⟨.own, x, ⟨.pushEnd, b, t, x, o, wn⟩, pm, sp⟩) := by
  simp [amStep, dqStep, DPc.fin]
theorem ow_end {pm : PM} {sp : Bool} {b t o : Int} {wn : Bool} : amStep c k mem ⟨.own, x, ⟨.pushEnd, b, t, x, o, wn⟩, pm, sp⟩ = (mput mem (pEnd c k 1) ((b + 1) % 18446744073709551616), ⟨.done, x, ⟨.done, b, t, 0, 1, wn⟩, pm, sp⟩) := by
  simp [amStep, dqStep, DPc.fin, endsOf]
end own

/-- The pool's steps are the packet's. -/
theorem pool_run {c : Cfg} {k : Int} {mem : List Int} {x : Int} {dq : DQ} {sp : Bool} {pm : PM} (n : Nat) (h : ∀ j, j < n → (pmRun c j (mem, pm)).2.pc ≠ .done) :
    ∀ j, j ≤ n → amRun c k j (mem, ⟨.pool, x, dq, pm, sp⟩) = ((pmRun c j (mem, pm)).1, ⟨if 0 < j ∧ (pmRun c j (mem, pm)).2.pc.fin then .done else .pool, x, dq, (pmRun c j (mem, pm)).2, sp⟩) := by
  intro j
  induction j with
  | zero => intro _; simp [amRun, pmRun]
  | succ j ih =>
    intro hj
    have hb := h j (by omega)
    have hf : (pmRun c j (mem, pm)).2.pc.fin = false := by
      cases e : (pmRun c j (mem, pm)).2.pc.fin
      · rfl
      · exact absurd (fin_iff.1 e) hb
    rw [amRun, ih (by omega), hf]
    simp [amStep, pmRun]

theorem ahead_small {n : Int} (h0 : 0 ≤ n) (h1 : n ≤ 100) : aheadI n 0 = n := by unfold aheadI; omega

/-- A task that finds room in the deque: four steps. -/
theorem add_room {c : Cfg} {k : Int} {mem ts P S : List Int} {x : Int} (hg : Good c) (hk : 0 ≤ k ∧ k < c.mks) (h : AInv c k mem ts P S) (hr : (ts.length : Int) < c.dq) :
    (∀ j, j < 3 → (amRun c k (j + 1) (mem, newAM c k x)).2.pc.fin = false) ∧ (amRun c k (3 + 1) (mem, newAM c k x)).2.pc.fin = true ∧ (amRun c k (3 + 1) (mem, newAM c k x)).2.spilled = false ∧ AInv c k (amRun c k (3 + 1) (mem, newAM c k x)).1 (ts ++ [x]) P S := by
  have hq : 2 ≤ c.dq ∧ c.dq ≤ 8 := by unfold Good at hg; omega
  have hA := allI_bound hg
  have hlen := h.inv.len
  have hn : newAM c k x = ⟨.own, x, ⟨.pushBottom, 0, 0, x, 0, false⟩, putOne x, false⟩ := by unfold newAM; rw [if_pos hk]
  have hbot := h.bot
  rw [show min (ts.length : Int) c.dq = ts.length from by omega] at hbot
  have e1 : amRun c k 1 (mem, newAM c k x) = (mem, ⟨.own, x, ⟨.pushTop, ts.length, 0, x, 0, false⟩, putOne x, false⟩) := by
    rw [amRun, amRun, hn]; simp only []; rw [ow_bottom, hbot]
  have e2 : amRun c k 2 (mem, newAM c k x) = (mem, ⟨.own, x, ⟨.pushEntry, ts.length, 0, x, 0, false⟩, putOne x, false⟩) := by
    rw [amRun, e1]; simp only []; rw [ow_top (by rw [h.top, ahead_small (by omega) (by omega)]; omega), h.top]
  have hent : entI (endsOf c k) ts.length = pEnd c k (2 + ts.length) := by
    unfold entI endsOf
    have a0 := (pEnd_is hg hk (j := 2 + 0) (by omega) (by omega)).1
    have a1 := (pEnd_is hg hk (j := 2 + (ts.length : Int)) (by omega) (by omega)).1
    simp only [pEntry]
    rw [if_pos (by omega), a0, a1, show max c.dq 1 = c.dq from by omega, Int.emod_eq_of_lt (by omega) hr]
    omega
  have e3 : amRun c k 3 (mem, newAM c k x) = (mput mem (pEnd c k (2 + ts.length)) x, ⟨.own, x, ⟨.pushEnd, ts.length, 0, x, 0, false⟩, putOne x, false⟩) := by
    rw [amRun, e2]; simp only []; rw [ow_entry, hent]
  have e4 : amRun c k 4 (mem, newAM c k x) = (mput (mput mem (pEnd c k (2 + ts.length)) x) (pEnd c k 1) (ts.length + 1), ⟨.done, x, ⟨.done, ts.length, 0, 0, 1, false⟩, putOne x, false⟩) := by
    rw [amRun, e3]; simp only []; rw [ow_end, show ((ts.length : Int) + 1) % 18446744073709551616 = ts.length + 1 from by omega]
  rw [show 3 + 1 = 4 from rfl, e4]
  refine ⟨fun j hj => ?_, rfl, rfl, ?_⟩
  · match j, hj with
    | 0, _ => rw [e1]; rfl
    | 1, _ => rw [e2]; rfl
    | 2, _ => rw [e3]; rfl
  have z2 := pEnd_is hg hk (j := 2 + (ts.length : Int)) (by omega) (by omega)
  have z1 := pEnd_is hg hk (j := 1) (by omega) (by omega)
  have z0 := pEnd_is hg hk (j := 0) (by omega) (by omega)
  have w2 := pEnd_lt hg hk (j := 2 + (ts.length : Int)) (by omega) (by omega)
  have w1 := pEnd_lt hg hk (j := 1) (by omega) (by omega)
  have hpk : ∀ (p i : Int), 1 ≤ p → p ≤ manyI c → 0 ≤ i → i ≤ 5 → mget (mput (mput mem (pEnd c k (2 + ts.length)) x) (pEnd c k 1) (ts.length + 1)) (pPack c p i) = mget mem (pPack c p i) := fun p i p1 p2 i1 i2 => by
    rw [mget_other (Ne.symm (w1.2 p i p1 p2 i1 i2)), mget_other (Ne.symm (w2.2 p i p1 p2 i1 i2))]
  have hsm : ∀ a : Int, a < 12 → mget (mput (mput mem (pEnd c k (2 + ts.length)) x) (pEnd c k 1) (ts.length + 1)) a = mget mem a := fun a ha => by
    rw [mget_other (by omega), mget_other (by omega)]
  have hpl : P = [] := by
    have := h.pool
    cases P with
    | nil => rfl
    | cons a l => simp at this; omega
  refine ⟨h.inv.mono _ (by rw [mput_len, mput_len]) ?_ ?_ (List.Sublist.refl _), ?_, ?_, ?_, ?_, ?_, h.all⟩
  · exact Linked.head h.inv.pool (by rw [hsm 4 (by omega)]) (fun p hp => by
      have := h.inv.rng p (by simp [hp])
      rw [show lnk c p = pPack c p 1 from rfl, hpk p 1 this.1 this.2 (by omega) (by omega)])
  · exact Linked.head h.inv.spare (by rw [hsm 5 (by omega)]) (fun p hp => by
      have := h.inv.rng p (by simp [hp])
      rw [show lnk c p = pPack c p 1 from rfl, hpk p 1 this.1 this.2 (by omega) (by omega)])
  · rw [mget_other (by omega), mget_other (by omega)]; exact h.top
  · rw [mget_put (by rw [mput_len]; omega)]; simp; omega
  · intro j hj hjq
    simp at hj
    have zj := pEnd_is hg hk (j := 2 + (j : Int)) (by omega) (by omega)
    by_cases e : j = ts.length
    · subst e
      rw [mget_other (by omega), mget_put (by omega)]
      simp
    · rw [mget_other (by omega), mget_other (by omega), h.ents j (by omega) hjq, List.getElem?_append_left (by omega)]
  · have := h.pool; simp; omega
  · intro q hq; rw [hpl] at hq; simp at hq

/-- A task for which the deque has no room: ten steps. -/
theorem add_full {c : Cfg} {k : Int} {mem ts P S : List Int} {x : Int} (hg : Good c) (hk : 0 ≤ k ∧ k < c.mks) (h : AInv c k mem ts P S) (hr : ¬ (ts.length : Int) < c.dq) (hs : (ts.length : Int) + 1 ≤ c.dq + manyI c) :
    (∀ j, j < 9 → (amRun c k (j + 1) (mem, newAM c k x)).2.pc.fin = false) ∧ (amRun c k (9 + 1) (mem, newAM c k x)).2.pc.fin = true ∧ (amRun c k (9 + 1) (mem, newAM c k x)).2.spilled = true ∧ ∃ P' S', AInv c k (amRun c k (9 + 1) (mem, newAM c k x)).1 (ts ++ [x]) P' S' := by
  have hq : 2 ≤ c.dq ∧ c.dq ≤ 8 := by unfold Good at hg; omega
  have hn : newAM c k x = ⟨.own, x, ⟨.pushBottom, 0, 0, x, 0, false⟩, putOne x, false⟩ := by unfold newAM; rw [if_pos hk]
  have hbot := h.bot
  rw [show min (ts.length : Int) c.dq = c.dq from by omega] at hbot
  have e1 : amRun c k 1 (mem, newAM c k x) = (mem, ⟨.own, x, ⟨.pushTop, c.dq, 0, x, 0, false⟩, putOne x, false⟩) := by
    rw [amRun, amRun, hn]; simp only []; rw [ow_bottom, hbot]
  have e2 : amRun c k 2 (mem, newAM c k x) = (mem, ⟨.pool, x, ⟨.done, c.dq, 0, 0, 2, false⟩, putOne x, true⟩) := by
    rw [amRun, e1]; simp only []; rw [ow_full (by rw [h.top, ahead_small (by omega) (by omega)]; omega), h.top]
  have hall := h.all
  have hpl := h.pool
  obtain ⟨p, S', rfl⟩ : ∃ p S', S = p :: S' := by
    cases S with
    | nil => simp at hall; omega
    | cons p S' => exact ⟨p, S', rfl⟩
  have hbusy := seqPut_steps (t := [x]) hg h.inv (by simp)
  obtain ⟨mem', j, y, e8, hi', hc', hf'⟩ := seqPutF (t := [x]) hg h.inv (by simp) (by simp)
  have hR := pool_run (k := k) (x := x) (dq := ⟨.done, c.dq, 0, 0, 2, false⟩) (sp := true) (7 + [x].length) hbusy
  have hd : ∀ j, amRun c k (2 + j) (mem, newAM c k x) = amRun c k j (mem, ⟨.pool, x, ⟨.done, c.dq, 0, 0, 2, false⟩, putOne x, true⟩) := fun j => by rw [amRun_add, e2]
  have e10 : amRun c k (9 + 1) (mem, newAM c k x) = (mem', ⟨.done, x, ⟨.done, c.dq, 0, 0, 2, false⟩, ⟨.done, [x], j, p, y⟩, true⟩) := by
    rw [show 9 + 1 = 2 + (7 + [x].length) from rfl, hd, hR _ (Nat.le_refl _)]
    rw [show pmRun c (7 + [x].length) (mem, putOne x) = (mem', ⟨.done, [x], j, p, y⟩) from e8]
    rfl
  rw [e10]
  refine ⟨fun j hj => ?_, rfl, rfl, p :: P, S', ?_⟩
  · match j with
    | 0 => rw [e1]; rfl
    | j + 1 =>
      rw [show j + 1 + 1 = 2 + j from by omega, hd, hR _ (by simp; omega)]
      have hb := hbusy j (by simp; omega)
      have hf : (pmRun c j (mem, putOne x)).2.pc.fin = false := by
        cases e : (pmRun c j (mem, putOne x)).2.pc.fin
        · rfl
        · exact absurd (fin_iff.1 e) hb
      rw [hf]; simp [APc.fin]
  have hp := h.inv.rng p (by simp)
  have hend : ∀ j, 0 ≤ j → j < 2 + c.dq → mget mem' (pEnd c k j) = mget mem (pEnd c k j) := fun j j0 j1 => by
    have z := pEnd_is hg hk j0 j1
    exact hf' _ (by omega) (by omega) (fun i i0 i1 => (pEnd_lt hg hk j0 j1).2 p i hp.1 hp.2 i0 i1)
  refine ⟨hi', by rw [hend 0 (by omega) (by omega)]; exact h.top, by rw [hend 1 (by omega) (by omega), hbot]; simp; omega, ?_, ?_, ?_, ?_⟩
  · intro j hj hjq
    rw [hend (2 + j) (by omega) (by omega), h.ents j (by omega) hjq, List.getElem?_append_left (by omega)]
  · simp; omega
  · intro q hq
    match q with
    | 0 => simpa using hc'
    | q + 1 =>
      simp only [List.length_cons] at hq
      have hq' : q < P.length := by omega
      have hm : P[q]?.getD 0 ∈ P := by rw [List.getElem?_eq_getElem hq']; exact List.getElem_mem _
      have hpq := h.inv.rng (P[q]?.getD 0) (by simp [hm])
      have hne : P[q]?.getD 0 ≠ p := fun e => by
        have hnd := hi'.nd
        rw [List.cons_append, List.nodup_cons] at hnd
        exact hnd.1 (by rw [← e]; simp [hm])
      have hcq := h.cont q hq'
      have hgt : (ts ++ [x])[(ts ++ [x]).length - 1 - (q + 1)]? = ts[ts.length - 1 - q]? := by
        rw [List.getElem?_append_left (by simp; omega)]
        congr 1
        simp; omega
      rw [hgt]
      simp only [List.getElem?_cons_succ]
      refine hcq.frame (by simp) (fun i i0 i1 _ => hf' _ ?_ ?_ (fun r r0 r1 => pack_ne hg hpq.1 hpq.2 i0 i1 hp.1 hp.2 r0 r1 (.inl hne)))
      · have := (pack_is hg hpq.1 hpq.2 i0 i1).2; omega
      · have := (pack_is hg hpq.1 hpq.2 i0 i1).2; omega
  · simp at hall ⊢; omega

theorem freeTo_deq {c : Cfg} (hg : Good c) (j : Nat) (hj : (j : Int) ≤ nN c - 1) (a : Int) (ha : dqsI c ≤ a ∧ a < pksI c) : mget (freeTo c j) a = mget (linkTo c (manyI c - 1).toNat) a := by
  have hn := nN_bound hg
  have hb := node0_bound hg
  have hd := dqs_bound hg
  have hp : pksI c ≤ node0I c := by
    have := manyI_bound hg
    show pksI c ≤ pksI c + manyI c * 6
    omega
  induction j with
  | zero =>
    have h0 := node_place (c := c) (v := nN c) (j := 0) (by omega) (by omega) (by omega) (by have := room_bound c (nN c); omega)
    have h1 := node_place (c := c) (v := nN c) (j := 1) (by omega) (by omega) (by omega) (by have := room_bound c (nN c); omega)
    rw [freeTo, mget_other (by omega), mget_other (by omega)]
  | succ j ih =>
    have h3 := node_place (c := c) (v := nN c - 1 - j) (j := 3) (by omega) (by omega) (by omega) (by have := room_bound c (nN c - 1 - j); omega)
    have hc := cls_range (c := c) (v := nN c - 1 - j) (by omega) (by omega)
    have hh : pHead c (clsI c (nN c - 1 - j)) < dqsI c := by
      unfold pHead
      rw [if_pos (by omega)]
      show _ < headI c + 5
      omega
    simp only [freeTo]
    rw [mget_other (by omega), mget_other (by omega), ih (by omega)]

theorem linkTo_deq {c : Cfg} (hg : Good c) (k : Nat) (hk : (k : Int) < manyI c) (a : Int) (ha : dqsI c ≤ a ∧ a < pksI c) : mget (linkTo c k) a = 0 := by
  have hd := dqs_bound hg
  induction k with
  | zero =>
    unfold mget linkTo
    split
    · rw [List.getElem?_set_ne (by omega)]
      simp [List.getElem?_replicate]
      split <;> rfl
    · rfl
  | succ k ih =>
    have h := pack_is hg (p := k + 1) (j := 1) (by omega) (by omega) (by omega) (by omega)
    have : pksI c ≤ pPack c ((k : Int) + 1) 1 := by
      have := h.1
      omega
    rw [linkTo, mget_other (by omega), ih (by omega)]

theorem firstL_end {c : Cfg} {k j : Int} (hg : Good c) (hk : 0 ≤ k ∧ k < c.mks) (h1 : 0 ≤ j) (h2 : j < 2 + c.dq) : mget (firstL c) (pEnd c k j) = 0 := by
  have hn := nN_bound hg
  have hm := manyI_bound hg
  have z := pEnd_is hg hk h1 h2
  have z2 : dqsI c ≤ pEnd c k j := by
    have := z.1
    have : 0 ≤ k * (2 + c.dq) := Int.mul_nonneg hk.1 (by unfold Good at hg; omega)
    omega
  unfold firstL
  rw [freeTo_deq hg _ (by omega) _ ⟨z2, z.2.2⟩, linkTo_deq hg _ (by omega) _ ⟨z2, z.2.2⟩]

/-- At first. -/
theorem add_first {c : Cfg} {k : Int} (hg : Good c) (hk : 0 ≤ k ∧ k < c.mks) : AInv c k (firstL c) [] [] (upL 1 (manyI c).toNat) := by
  have hi := seqFirst hg
  have hmb := manyI_bound hg
  have hq : 2 ≤ c.dq ∧ c.dq ≤ 8 := by unfold Good at hg; omega
  have hz : ∀ j, 0 ≤ j → j < 2 + c.dq → mget (firstL c) (pEnd c k j) = 0 := fun j j0 j1 => firstL_end hg hk j0 j1
  refine ⟨hi, hz 0 (by omega) (by omega), by rw [hz 1 (by omega) (by omega)]; simp; omega, fun j hj => by simp at hj, by simp; omega, fun q hq => by simp at hq, by rw [upL_len]; simp; omega⟩

end Go.Proofs.Ytfbcadknimfhjaa
