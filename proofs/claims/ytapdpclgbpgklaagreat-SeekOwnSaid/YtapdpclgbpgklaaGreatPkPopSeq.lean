/- Tasks that are put somewhere one at a time, and popped: plain numbers. No program. -/
import Derived.Test.YtapdpclgbpgklaaGreatPkI
import Derived.Test.YtapdpclgbpgklaaGreatPkF
namespace Go.Proofs.YtapdpclgbpgklaaGreat
open Go.RowKit

/-- What is in the pool, of tasks that were put one at a time. -/
theorem add_held {c : Cfg} {k : Int} {mem ts P S : List Int} (hg : Good c) (h : AInv c k mem ts P S) : (heldL c mem).length = P.length ∧ ∀ q, q < P.length → (heldL c mem)[q]? = some (ts[ts.length - 1 - q]?.getD 0) := by
  have hall := h.all
  have hw : heldL c mem = P.map fun p => (tasksL c mem p)[0]?.getD 0 := by
    unfold heldL
    rw [h.inv.walk hg (by omega)]
    have hs : ∀ p ∈ P, tasksL c mem p = [(tasksL c mem p)[0]?.getD 0] := fun p hp => by
      obtain ⟨q, hq, rfl⟩ := List.getElem_of_mem hp
      have hc := h.cont q hq
      rw [List.getElem?_eq_getElem hq] at hc
      rw [tasks_content (by simpa using hc) (by simp)]
      simp
    clear h hall
    induction P with
    | nil => rfl
    | cons p P ih =>
      rw [List.flatMap_cons, hs p (by simp), ih (fun q hq => hs q (by simp [hq]))]
      simp
  rw [hw]
  refine ⟨by simp, fun q hq => ?_⟩
  have hc := h.cont q hq
  rw [List.getElem?_map, List.getElem?_eq_getElem hq]
  rw [List.getElem?_eq_getElem hq] at hc
  simp only [Option.map_some, Option.getD_some] at hc ⊢
  rw [tasks_content hc (by simp)]
  simp

/-- So many steps of a deque's machine. -/
def dqRun (e : DEnds) : Nat → List Int × DQ → List Int × DQ
  | 0, x => x
  | k + 1, x => dqStep e (dqRun e k x).1 (dqRun e k x).2

theorem dqStep_done {e : DEnds} {mem : List Int} {d : DQ} (h : d.pc = .done) : dqStep e mem d = (mem, d) := by
  unfold dqStep; rw [h]

theorem dqRun_add (e : DEnds) (a b : Nat) (x : List Int × DQ) : dqRun e (a + b) x = dqRun e b (dqRun e a x) := by
  induction b with
  | zero => rfl
  | succ b ih => rw [← Nat.add_assoc, dqRun, dqRun, ih]

theorem dqRun_stay {e : DEnds} {a : Nat} {x : List Int × DQ} (h : (dqRun e a x).2.pc = .done) (b : Nat) : dqRun e (a + b) x = dqRun e a x := by
  induction b with
  | zero => rfl
  | succ b ih => rw [← Nat.add_assoc, dqRun, ih, dqStep_done h]

theorem dqRun_upto {e : DEnds} {a m : Nat} {x y : List Int × DQ} (h : dqRun e a x = y) (hd : y.2.pc = .done) (hm : a ≤ m) : dqRun e m x = y := by
  obtain ⟨b, rfl⟩ := Nat.exists_eq_add_of_le hm
  rw [dqRun_stay (by rw [h]; exact hd), h]

/-- A pop that begins. -/
abbrev popD : DQ := ⟨.popBottom, 0, 0, 0, 0, false⟩

section pops
variable {e : DEnds} {mem : List Int} {b t x o : Int} {wn : Bool}
theorem po_bottom : dqStep e mem ⟨.popBottom, b, t, x, o, wn⟩ = (mem, ⟨.popDown, (mget mem e.bt - 1) % 18446744073709551616, t, x, o, wn⟩) := rfl
theorem po_down : dqStep e mem ⟨.popDown, b, t, x, o, wn⟩ = (mput mem e.bt b, ⟨.popTop, b, t, x, o, wn⟩) := rfl
theorem po_top (h : ¬ aheadI (mget mem e.tp) b > 0) : dqStep e mem ⟨.popTop, b, t, x, o, wn⟩ = (mem, ⟨.popEntry, b, mget mem e.tp, x, o, wn⟩) := by simp [dqStep, if_neg h]
theorem po_topBack (h : aheadI (mget mem e.tp) b > 0) : dqStep e mem ⟨.popTop, b, t, x, o, wn⟩ = (mem, ⟨.popBack, b, mget mem e.tp, x, o, wn⟩) := by simp [dqStep, if_pos h]
theorem po_entry (h : aheadI b t > 0) : dqStep e mem ⟨.popEntry, b, t, x, o, wn⟩ = (mem, ⟨.done, b, t, mget mem (entI e b), 1, wn⟩) := by simp [dqStep, if_pos h]
theorem po_entryLast (h : ¬ aheadI b t > 0) : dqStep e mem ⟨.popEntry, b, t, x, o, wn⟩ = (mem, ⟨.popSwap, b, t, mget mem (entI e b), o, wn⟩) := by simp [dqStep, if_neg h]
theorem po_swap (h : mhit mem e.tp t = true) : dqStep e mem ⟨.popSwap, b, t, x, o, wn⟩ = (mput mem e.tp ((t + 1) % 18446744073709551616), ⟨.popBack, b, t, x, o, true⟩) := by simp [dqStep, h]
theorem po_swapMiss (h : mhit mem e.tp t = false) : dqStep e mem ⟨.popSwap, b, t, x, o, wn⟩ = (mem, ⟨.popBack, b, t, x, o, false⟩) := by simp [dqStep, h]
theorem po_back : dqStep e mem ⟨.popBack, b, t, x, o, true⟩ = (mput mem e.bt ((b + 1) % 18446744073709551616), ⟨.done, b, t, x, 1, true⟩) := by simp [dqStep]
theorem po_backNone : dqStep e mem ⟨.popBack, b, t, x, o, false⟩ = (mput mem e.bt ((b + 1) % 18446744073709551616), ⟨.done, b, t, 0, 3, false⟩) := by simp [dqStep]
end pops

/-- What is in a marker's deque, from place 0 on: these tasks. -/
structure DInv (c : Cfg) (k : Int) (mem ts : List Int) : Prop where
  top : mget mem (pEnd c k 0) = 0
  bot : mget mem (pEnd c k 1) = ts.length
  ents : ∀ j : Nat, j < ts.length → mget mem (pEnd c k (2 + j)) = ts[j]?.getD 0

theorem ent_is {c : Cfg} (hg : Good c) {k j : Int} (hk : 0 ≤ k ∧ k < c.mks) (h0 : 0 ≤ j) (h1 : j < c.dq) : entI (endsOf c k) j = pEnd c k (2 + j) := by
  have hq : 2 ≤ c.dq ∧ c.dq ≤ 8 := by unfold Good at hg; omega
  unfold entI endsOf
  have a0 := (pEnd_is hg hk (j := 2 + 0) (by omega) (by omega)).1
  have a1 := (pEnd_is hg hk (j := 2 + j) (by omega) (by omega)).1
  simp only [pEntry]
  rw [if_pos (by omega), a0, a1, show max c.dq 1 = c.dq from by omega, Int.emod_eq_of_lt h0 h1]
  omega

/-- A pop, alone, of a deque with tasks: the last one; six steps, or fewer. -/
theorem pop_seq {c : Cfg} {k : Int} {mem ts : List Int} {x : Int} (hg : Good c) (hk : 0 ≤ k ∧ k < c.mks) (hlen : (mem.length : Int) = allI c) (h : DInv c k mem (ts ++ [x])) (hr : (ts.length : Int) < c.dq) :
    ∃ mem' b t wn, dqRun (endsOf c k) 6 (mem, popD) = (mem', ⟨.done, b, t, x, 1, wn⟩) ∧ (mem'.length : Int) = allI c ∧ (0 < ts.length → DInv c k mem' ts) ∧ (∀ a, a ≠ pEnd c k 0 → a ≠ pEnd c k 1 → mget mem' a = mget mem a) := by
  have hq : 2 ≤ c.dq ∧ c.dq ≤ 8 := by unfold Good at hg; omega
  have z0 := pEnd_is hg hk (j := 0) (by omega) (by omega)
  have z1 := pEnd_is hg hk (j := 1) (by omega) (by omega)
  have w0 := (pEnd_lt hg hk (j := 0) (by omega) (by omega)).1
  have w1 := (pEnd_lt hg hk (j := 1) (by omega) (by omega)).1
  have hbot : mget mem (endsOf c k).bt = ts.length + 1 := by
    show mget mem (pEnd c k 1) = _
    have := h.bot; simpa using this
  have e1 : dqRun (endsOf c k) 1 (mem, popD) = (mem, ⟨.popDown, ts.length, 0, 0, 0, false⟩) := by
    rw [dqRun, dqRun]; simp only []; rw [po_bottom, hbot, show ((ts.length : Int) + 1 - 1) % 18446744073709551616 = ts.length from by omega]
  have e2 : dqRun (endsOf c k) 2 (mem, popD) = (mput mem (pEnd c k 1) ts.length, ⟨.popTop, ts.length, 0, 0, 0, false⟩) := by
    rw [dqRun, e1]; simp only []; rw [po_down]; rfl
  obtain ⟨m2, hm2⟩ : ∃ m2, mput mem (pEnd c k 1) ts.length = m2 := ⟨_, rfl⟩
  rw [hm2] at e2
  have f2 : ∀ a, a ≠ pEnd c k 1 → mget m2 a = mget mem a := fun a ha => by rw [← hm2, mget_other ha]
  have l2 : m2.length = mem.length := by rw [← hm2, mput_len]
  have b2 : mget m2 (pEnd c k 1) = ts.length := by rw [← hm2, mget_put (by omega)]
  have t2 : mget m2 (endsOf c k).tp = 0 := by show mget m2 (pEnd c k 0) = 0; rw [f2 _ (by omega)]; exact h.top
  have e3 : dqRun (endsOf c k) 3 (mem, popD) = (m2, ⟨.popEntry, ts.length, 0, 0, 0, false⟩) := by
    rw [dqRun, e2]; simp only []; rw [po_top (by rw [t2]; unfold aheadI; omega), t2]
  have hx : mget m2 (entI (endsOf c k) ts.length) = x := by
    rw [ent_is hg hk (by omega) hr]
    have z2 := pEnd_is hg hk (j := 2 + (ts.length : Int)) (by omega) (by omega)
    rw [f2 _ (by omega), h.ents ts.length (by simp)]
    simp
  have hents : ∀ j : Nat, j < ts.length → mget m2 (pEnd c k (2 + j)) = ts[j]?.getD 0 := fun j hj => by
    have zj := pEnd_is hg hk (j := 2 + (j : Int)) (by omega) (by omega)
    rw [f2 _ (by omega), h.ents j (by simp; omega), List.getElem?_append_left hj]
  by_cases hz : 0 < ts.length
  · have e4 : dqRun (endsOf c k) 4 (mem, popD) = (m2, ⟨.done, ts.length, 0, x, 1, false⟩) := by
      rw [dqRun, e3]; simp only []; rw [po_entry (by rw [ahead_small (by omega) (by omega)]; omega), hx]
    refine ⟨m2, _, _, _, dqRun_upto e4 rfl (by omega), by omega, fun _ => ⟨t2, b2, hents⟩, fun a _ h1 => f2 a h1⟩
  · have hts : ts.length = 0 := by omega
    have e4 : dqRun (endsOf c k) 4 (mem, popD) = (m2, ⟨.popSwap, ts.length, 0, x, 0, false⟩) := by
      rw [dqRun, e3]; simp only []; rw [po_entryLast (by rw [ahead_small (by omega) (by omega)]; omega), hx]
    have hh : mhit m2 (endsOf c k).tp 0 = true := by
      have := mhit_self (mem := m2) (a := (endsOf c k).tp) (by show 0 ≤ pEnd c k 0 ∧ pEnd c k 0 < (m2.length : Int); omega)
      rwa [t2] at this
    have e5 : dqRun (endsOf c k) 5 (mem, popD) = (mput m2 (pEnd c k 0) 1, ⟨.popBack, ts.length, 0, x, 0, true⟩) := by
      rw [dqRun, e4]; simp only []; rw [po_swap hh]; rfl
    have e6 : dqRun (endsOf c k) 6 (mem, popD) = (mput (mput m2 (pEnd c k 0) 1) (pEnd c k 1) (((ts.length : Int) + 1) % 18446744073709551616), ⟨.done, ts.length, 0, x, 1, true⟩) := by
      rw [dqRun, e5]; simp only []; rw [po_back]; rfl
    refine ⟨_, _, _, _, e6, by rw [mput_len, mput_len]; omega, fun h => absurd h hz, fun a h0 h1 => ?_⟩
    rw [mget_other h1, mget_other h0, f2 a h1]

end Go.Proofs.YtapdpclgbpgklaaGreat
