/- A marker that looks for a task, alone: its own deque, its bag, the pool: plain numbers. No program. -/
import Derived.Test.YtapdpclgbpgklaaGreatPkPopSeq
import Derived.Test.YtapdpclgbpgklaaGreatPkAwake15
namespace Go.Proofs.YtapdpclgbpgklaaGreat
open Go.RowKit

theorem skRun_add (c : Cfg) (a b : Nat) (x : List Int × KS) : skRun c (a + b) x = skRun c b (skRun c a x) := by
  induction b with
  | zero => rfl
  | succ b ih => rw [← Nat.add_assoc, skRun, skRun, ih]

theorem skRun_stay {c : Cfg} {a : Nat} {x : List Int × KS} (h : (skRun c a x).2.pc = .done) (b : Nat) : skRun c (a + b) x = skRun c a x := by
  induction b with
  | zero => rfl
  | succ b ih => rw [← Nat.add_assoc, skRun, ih, skStep_done h]

theorem skRun_upto {c : Cfg} {a m : Nat} {x y : List Int × KS} (h : skRun c a x = y) (hd : y.2.pc = .done) (hm : a ≤ m) : skRun c m x = y := by
  obtain ⟨b, rfl⟩ := Nat.exists_eq_add_of_le hm
  rw [skRun_stay (by rw [h]; exact hd), h]

/-- What comes when the machine of its own deque has ended. -/
def ownEnd (c : Cfg) (s : KS) (d : DQ) : KS := if d.out = 1 then endK { s with dq := d } d.wd else unpackK c { s with dq := d }

theorem skOwn_step (c : Cfg) {s : KS} (hs : s.pc = .own) (mem : List Int) (d : DQ) : skStep c mem { s with dq := d } = ((dqStep (endsOf c s.i) mem d).1, if (dqStep (endsOf c s.i) mem d).2.pc.fin then ownEnd c s (dqStep (endsOf c s.i) mem d).2 else { s with dq := (dqStep (endsOf c s.i) mem d).2 }) := by
  obtain ⟨pc, i, bp, ba, bn, draw, task, found, dq, pk, vi, st⟩ := s
  simp only at hs
  subst hs
  rfl

theorem own_run (c : Cfg) {s : KS} (hs : s.pc = .own) (n : Nat) : ∀ (mem : List Int) (d : DQ), d.pc ≠ .done → (dqRun (endsOf c s.i) n (mem, d)).2.pc = .done → ∃ k, k ≤ n ∧ skRun c k (mem, { s with dq := d }) = ((dqRun (endsOf c s.i) n (mem, d)).1, ownEnd c s (dqRun (endsOf c s.i) n (mem, d)).2) := by
  induction n with
  | zero => intro mem d h1 h2; exact absurd h2 h1
  | succ n ih =>
    intro mem d h1 h2
    have e : dqRun (endsOf c s.i) (n + 1) (mem, d) = dqRun (endsOf c s.i) n (dqStep (endsOf c s.i) mem d) := by
      rw [Nat.add_comm n 1, dqRun_add]; rfl
    rw [e] at h2 ⊢
    have hk := skOwn_step c hs mem d
    cases hf : (dqStep (endsOf c s.i) mem d).2.pc.fin
    · rw [hf] at hk
      simp only [Bool.false_eq_true, ↓reduceIte] at hk
      have hne : (dqStep (endsOf c s.i) mem d).2.pc ≠ .done := fun h => by rw [h] at hf; cases hf
      obtain ⟨k, hk1, hk2⟩ := ih (dqStep (endsOf c s.i) mem d).1 (dqStep (endsOf c s.i) mem d).2 hne h2
      refine ⟨1 + k, by omega, ?_⟩
      rw [skRun_add]
      show skRun c k (skStep c mem { s with dq := d }) = _
      rw [hk, hk2]
    · rw [hf] at hk
      simp only [↓reduceIte] at hk
      have hd := dfin_iff.1 hf
      refine ⟨1, by omega, ?_⟩
      show skStep c mem { s with dq := d } = _
      have e2 : dqRun (endsOf c s.i) n (dqStep (endsOf c s.i) mem d) = dqStep (endsOf c s.i) mem d := by
        have := dqRun_stay (e := endsOf c s.i) (a := 0) (x := dqStep (endsOf c s.i) mem d) hd n
        rw [Nat.zero_add] at this
        exact this
      rw [hk, e2]

theorem skTake_step (c : Cfg) {s : KS} (hs : s.pc = .take) (mem : List Int) (x : PM) (hp : (pmStep c mem x).2.pc.fin = true → (pmStep c mem x).2.p ≠ 0) : skStep c mem { s with pk := x } = ((pmStep c mem x).1, if (pmStep c mem x).2.pc.fin then { s with pk := (pmStep c mem x).2, pc := .many } else { s with pk := (pmStep c mem x).2 }) := by
  obtain ⟨pc, i, bp, ba, bn, draw, task, found, dq, pk, vi, st⟩ := s
  simp only at hs
  subst hs
  simp only [skStep]
  cases hf : (pmStep c mem x).2.pc.fin
  · rfl
  · rw [if_pos (hp hf)]

theorem take_run (c : Cfg) {s : KS} (hs : s.pc = .take) (n : Nat) : ∀ (mem : List Int) (x : PM), x.pc ≠ .done → (pmRun c n (mem, x)).2.pc = .done → (pmRun c n (mem, x)).2.p ≠ 0 → ∃ k, k ≤ n ∧ skRun c k (mem, { s with pk := x }) = ((pmRun c n (mem, x)).1, { s with pk := (pmRun c n (mem, x)).2, pc := .many }) := by
  induction n with
  | zero => intro mem d h1 h2; exact absurd h2 h1
  | succ n ih =>
    intro mem x h1 h2 h3
    have e : pmRun c (n + 1) (mem, x) = pmRun c n (pmStep c mem x) := by
      rw [Nat.add_comm n 1, pmRun_add]; rfl
    rw [e] at h2 h3 ⊢
    have e2 : (pmStep c mem x).2.pc = .done → pmRun c n (pmStep c mem x) = pmStep c mem x := fun hd => by
      have := pmRun_stay (c := c) (a := 0) (x := pmStep c mem x) hd n
      rw [Nat.zero_add] at this
      exact this
    have hk := skTake_step c hs mem x (fun hf => by rw [e2 (fin_iff.1 hf)] at h3; exact h3)
    cases hf : (pmStep c mem x).2.pc.fin
    · rw [hf] at hk
      simp only [Bool.false_eq_true, ↓reduceIte] at hk
      have hne : (pmStep c mem x).2.pc ≠ .done := fun h => by rw [h] at hf; cases hf
      obtain ⟨k, hk1, hk2⟩ := ih (pmStep c mem x).1 (pmStep c mem x).2 hne h2 h3
      refine ⟨1 + k, by omega, ?_⟩
      rw [skRun_add]
      show skRun c k (skStep c mem { s with pk := x }) = _
      rw [hk, hk2]
    · rw [hf] at hk
      simp only [↓reduceIte] at hk
      refine ⟨1, by omega, ?_⟩
      show skStep c mem { s with pk := x } = _
      rw [hk, e2 (fin_iff.1 hf)]

/-- A deque that has nothing: both its ends at 0, or at 1. -/
def Flat (c : Cfg) (k : Int) (mem : List Int) : Prop := ∃ t : Int, (t = 0 ∨ t = 1) ∧ mget mem (pEnd c k 0) = t ∧ mget mem (pEnd c k 1) = t

theorem Flat.same {c : Cfg} {k : Int} {mem mem' : List Int} (h : Flat c k mem) (hs : ∀ a, mget mem' a = mget mem a) : Flat c k mem' := by
  obtain ⟨t, ht, h0, h1⟩ := h
  exact ⟨t, ht, by rw [hs]; exact h0, by rw [hs]; exact h1⟩

/-- A pop of a deque that has nothing: memory is as it was. -/
theorem pop_empty {c : Cfg} {k : Int} {mem : List Int} (hg : Good c) (hk : 0 ≤ k ∧ k < c.mks) (hlen : (mem.length : Int) = allI c) (h : Flat c k mem) :
    ∃ mem' d, dqRun (endsOf c k) 4 (mem, popD) = (mem', d) ∧ d.pc = .done ∧ d.out = 3 ∧ (mem'.length : Int) = allI c ∧ ∀ a, mget mem' a = mget mem a := by
  have hq : 2 ≤ c.dq ∧ c.dq ≤ 8 := by unfold Good at hg; omega
  have z0 := pEnd_is hg hk (j := 0) (by omega) (by omega)
  have z1 := pEnd_is hg hk (j := 1) (by omega) (by omega)
  have w1 := (pEnd_lt hg hk (j := 1) (by omega) (by omega)).1
  obtain ⟨t, ht, h0, h1⟩ := h
  obtain ⟨b, hb⟩ : ∃ b : Int, (t - 1) % 18446744073709551616 = b := ⟨_, rfl⟩
  have hbt : (b + 1) % 18446744073709551616 = t := by omega
  have ha : aheadI t b > 0 := by unfold aheadI; omega
  have e1 : dqRun (endsOf c k) 1 (mem, popD) = (mem, ⟨.popDown, b, 0, 0, 0, false⟩) := by
    rw [dqRun, dqRun]; simp only []; rw [po_bottom, show mget mem (endsOf c k).bt = t from h1, hb]
  have e2 : dqRun (endsOf c k) 2 (mem, popD) = (mput mem (pEnd c k 1) b, ⟨.popTop, b, 0, 0, 0, false⟩) := by
    rw [dqRun, e1]; simp only []; rw [po_down]; rfl
  have t2 : mget (mput mem (pEnd c k 1) b) (endsOf c k).tp = t := by show mget (mput mem (pEnd c k 1) b) (pEnd c k 0) = t; rw [mget_other (by omega)]; exact h0
  have e3 : dqRun (endsOf c k) 3 (mem, popD) = (mput mem (pEnd c k 1) b, ⟨.popBack, b, t, 0, 0, false⟩) := by
    rw [dqRun, e2]; simp only []; rw [po_topBack (by rw [t2]; exact ha), t2]
  have e4 : dqRun (endsOf c k) 4 (mem, popD) = (mput (mput mem (pEnd c k 1) b) (pEnd c k 1) ((b + 1) % 18446744073709551616), ⟨.done, b, t, 0, 3, false⟩) := by
    rw [dqRun, e3]; simp only []; rw [po_backNone]; rfl
  refine ⟨_, _, e4, rfl, rfl, by rw [mput_len, mput_len]; exact hlen, fun a => ?_⟩
  by_cases e : a = pEnd c k 1
  · subst e
    rw [mget_put (by rw [mput_len]; omega), hbt, h1]
  · rw [mget_other e, mget_other e]

/-- A pop of the last task. -/
theorem pop_last {c : Cfg} {k : Int} {mem : List Int} {x : Int} (hg : Good c) (hk : 0 ≤ k ∧ k < c.mks) (hlen : (mem.length : Int) = allI c) (h : DInv c k mem [x]) :
    ∃ mem' b t wn, dqRun (endsOf c k) 6 (mem, popD) = (mem', ⟨.done, b, t, x, 1, wn⟩) ∧ (mem'.length : Int) = allI c ∧ Flat c k mem' ∧ (∀ a, a ≠ pEnd c k 0 → a ≠ pEnd c k 1 → mget mem' a = mget mem a) := by
  have hq : 2 ≤ c.dq ∧ c.dq ≤ 8 := by unfold Good at hg; omega
  have z0 := pEnd_is hg hk (j := 0) (by omega) (by omega)
  have z1 := pEnd_is hg hk (j := 1) (by omega) (by omega)
  have w0 := (pEnd_lt hg hk (j := 0) (by omega) (by omega)).1
  have w1 := (pEnd_lt hg hk (j := 1) (by omega) (by omega)).1
  have hbot : mget mem (endsOf c k).bt = 1 := by
    show mget mem (pEnd c k 1) = _
    have := h.bot; simpa using this
  have e1 : dqRun (endsOf c k) 1 (mem, popD) = (mem, ⟨.popDown, 0, 0, 0, 0, false⟩) := by
    rw [dqRun, dqRun]; simp only []; rw [po_bottom, hbot]; rfl
  have e2 : dqRun (endsOf c k) 2 (mem, popD) = (mput mem (pEnd c k 1) 0, ⟨.popTop, 0, 0, 0, 0, false⟩) := by
    rw [dqRun, e1]; simp only []; rw [po_down]; rfl
  obtain ⟨m2, hm2⟩ : ∃ m2, mput mem (pEnd c k 1) 0 = m2 := ⟨_, rfl⟩
  rw [hm2] at e2
  have f2 : ∀ a, a ≠ pEnd c k 1 → mget m2 a = mget mem a := fun a ha => by rw [← hm2, mget_other ha]
  have l2 : m2.length = mem.length := by rw [← hm2, mput_len]
  have t2 : mget m2 (endsOf c k).tp = 0 := by show mget m2 (pEnd c k 0) = 0; rw [f2 _ (by omega)]; exact h.top
  have e3 : dqRun (endsOf c k) 3 (mem, popD) = (m2, ⟨.popEntry, 0, 0, 0, 0, false⟩) := by
    rw [dqRun, e2]; simp only []; rw [po_top (by rw [t2]; unfold aheadI; omega), t2]
  have hx : mget m2 (entI (endsOf c k) 0) = x := by
    rw [ent_is hg hk (by omega) (by omega)]
    have z2 := pEnd_is hg hk (j := 2 + 0) (by omega) (by omega)
    rw [f2 _ (by omega)]
    have := h.ents 0 (by simp)
    simpa using this
  have e4 : dqRun (endsOf c k) 4 (mem, popD) = (m2, ⟨.popSwap, 0, 0, x, 0, false⟩) := by
    rw [dqRun, e3]; simp only []; rw [po_entryLast (by rw [ahead_small (by omega) (by omega)]; omega), hx]
  have hh : mhit m2 (endsOf c k).tp 0 = true := by
    have := mhit_self (mem := m2) (a := (endsOf c k).tp) (by show 0 ≤ pEnd c k 0 ∧ pEnd c k 0 < (m2.length : Int); omega)
    rwa [t2] at this
  have e5 : dqRun (endsOf c k) 5 (mem, popD) = (mput m2 (pEnd c k 0) 1, ⟨.popBack, 0, 0, x, 0, true⟩) := by
    rw [dqRun, e4]; simp only []; rw [po_swap hh]; rfl
  have e6 : dqRun (endsOf c k) 6 (mem, popD) = (mput (mput m2 (pEnd c k 0) 1) (pEnd c k 1) 1, ⟨.done, 0, 0, x, 1, true⟩) := by
    rw [dqRun, e5]; simp only []; rw [po_back]; rfl
  refine ⟨_, _, _, _, e6, by rw [mput_len, mput_len]; omega, ⟨1, .inr rfl, ?_, ?_⟩, fun a h0 h1 => ?_⟩
  · rw [mget_other (by omega), mget_put (by omega)]
  · rw [mget_put (by rw [mput_len]; omega)]
  · rw [mget_other h1, mget_other h0, f2 a h1]

/-- What it found, and its bag. -/
structure Got (s : KS) (x bp ba bn : Int) : Prop where
  pc : s.pc = .done
  found : s.found = true
  task : s.task = x
  bp : s.bp = bp
  ba : s.ba = ba
  bn : s.bn = bn

theorem four_is {a : Int} (h0 : 0 ≤ a) (h1 : a ≤ 4) : four a = a := by unfold four; omega

theorem newKS_own {c : Cfg} {i : Int} (bp ba bn draw : Int) (hi : 0 ≤ i ∧ i < c.mks) : newKS c i bp ba bn draw = ⟨.own, i, bp, four ba, four bn, draw, 0, false, popD, takePM, 0, ⟨.stealTop, 0, 0, 0, 0⟩⟩ := if_pos hi

/-- From its own deque: the last task. -/
theorem seek_own {c : Cfg} {i p a k draw : Int} {mem ts : List Int} {x : Int} (hg : Good c) (hi : 0 ≤ i ∧ i < c.mks) (ha : 0 ≤ a ∧ a ≤ 4) (hk : 0 ≤ k ∧ k ≤ 4) (hlen : (mem.length : Int) = allI c) (h : DInv c i mem (ts ++ [x])) (hr : (ts.length : Int) < c.dq) :
    ∃ mem' s, skRun c 40 (mem, newKS c i p a k draw) = (mem', s) ∧ Got s x p a k ∧ (mem'.length : Int) = allI c ∧ (0 < ts.length → DInv c i mem' ts) ∧ (ts.length = 0 → Flat c i mem') ∧ (∀ a, a ≠ pEnd c i 0 → a ≠ pEnd c i 1 → mget mem' a = mget mem a) := by
  have H : ∃ mem' b t wn, dqRun (endsOf c i) 6 (mem, popD) = (mem', ⟨.done, b, t, x, 1, wn⟩) ∧ (mem'.length : Int) = allI c ∧ (0 < ts.length → DInv c i mem' ts) ∧ (ts.length = 0 → Flat c i mem') ∧ (∀ a, a ≠ pEnd c i 0 → a ≠ pEnd c i 1 → mget mem' a = mget mem a) := by
    by_cases hz : ts.length = 0
    · have hn : ts = [] := List.length_eq_zero_iff.1 hz
      subst hn
      obtain ⟨m, b, t, wn, e, l, f, g⟩ := pop_last hg hi hlen h
      exact ⟨m, b, t, wn, e, l, fun h => absurd h (by simp), fun _ => f, g⟩
    · obtain ⟨m, b, t, wn, e, l, f, g⟩ := pop_seq hg hi hlen h hr
      exact ⟨m, b, t, wn, e, l, f, fun h => absurd h hz, g⟩
  obtain ⟨mem', b, t, wn, e, l, f, f0, g⟩ := H
  have hn := newKS_own (c := c) p a k draw hi
  rw [four_is ha.1 ha.2, four_is hk.1 hk.2] at hn
  obtain ⟨q, hq, hr⟩ := own_run c (s := newKS c i p a k draw) (by rw [hn]) 6 mem popD (by simp) (by rw [hn]; simp only []; rw [e])
  rw [hn] at hr
  simp only [] at hr
  rw [e, ← hn] at hr
  refine ⟨mem', _, skRun_upto hr ?_ (by omega), ?_, l, f, f0, g⟩
  · rw [hn]; rfl
  · rw [hn]; exact ⟨rfl, rfl, rfl, rfl, rfl, rfl⟩

/-- From its bag. -/
theorem seek_bag {c : Cfg} {i p a k draw : Int} {mem : List Int} (hg : Good c) (hi : 0 ≤ i ∧ i < c.mks) (hp : p ≠ 0) (ha : 0 ≤ a) (hak : a < k) (hk : k ≤ 4) (hlen : (mem.length : Int) = allI c) (h : Flat c i mem) :
    ∃ mem' s, skRun c 40 (mem, newKS c i p a k draw) = (mem', s) ∧ Got s (mget mem (pTask c p a)) p (a + 1) k ∧ (mem'.length : Int) = allI c ∧ ∀ a, mget mem' a = mget mem a := by
  obtain ⟨mem', d, e, hd, ho, l, g⟩ := pop_empty hg hi hlen h
  have hn := newKS_own (c := c) p a k draw hi
  rw [four_is ha (by omega), four_is (by omega) hk] at hn
  obtain ⟨q, hq, hr⟩ := own_run c (s := newKS c i p a k draw) (by rw [hn]) 4 mem popD (by simp) (by rw [hn]; simp only []; rw [e]; exact hd)
  rw [hn] at hr
  simp only [] at hr
  rw [e, ← hn] at hr
  have ho' : ¬ d.out = 1 := by omega
  have hu : ownEnd c (newKS c i p a k draw) d = ⟨.first, i, p, a, k, draw, 0, false, d, takePM, 0, ⟨.stealTop, 0, 0, 0, 0⟩⟩ := by
    rw [hn]; unfold ownEnd; rw [if_neg ho']; unfold unpackK; simp only []; rw [if_pos ⟨hp, hak⟩]
  simp only [] at hr
  rw [hu] at hr
  have hr2 : skRun c (q + 1) (mem, newKS c i p a k draw) = (mem', ⟨.done, i, p, a + 1, k, draw, mget mem (pTask c p a), true, d, takePM, 0, ⟨.stealTop, 0, 0, 0, 0⟩⟩) := by
    rw [skRun, hr, ← g (pTask c p a)]; rfl
  exact ⟨mem', _, skRun_upto hr2 rfl (by omega), ⟨rfl, rfl, rfl, rfl, rfl, rfl⟩, l, g⟩

/-- From the pool. -/
theorem seek_pool {c : Cfg} {i p draw : Int} {mem t P S : List Int} (hg : Good c) (hi : 0 ≤ i ∧ i < c.mks) (hinv : Inv c mem (p :: P) S) (hc : Content c mem p t) (ht : 0 < t.length) (ht4 : t.length ≤ 4) (h : Flat c i mem) :
    ∃ mem' s, skRun c 40 (mem, newKS c i 0 0 0 draw) = (mem', s) ∧ Got s (t[0]?.getD 0) p 1 t.length ∧ (mem'.length : Int) = allI c ∧ ∀ a, a ≠ 4 → mget mem' a = mget mem a := by
  obtain ⟨m1, d, e, hd, ho, l, g⟩ := pop_empty hg hi hinv.len h
  have hinv1 : Inv c m1 (p :: P) S := by
    refine hinv.mono _ (by have := hinv.len; omega) ?_ ?_ (List.Sublist.refl _)
    · exact Linked.head hinv.pool (by rw [g]) (fun _ _ => by rw [g])
    · exact Linked.head hinv.spare (by rw [g]) (fun _ _ => by rw [g])
  obtain ⟨m2, x, e2, hinv2, g2⟩ := seqTakeF hg hinv1
  have hpr := hinv.rng p (by simp)
  have hp0 : p ≠ 0 := by omega
  have hn := newKS_own (c := c) 0 0 0 draw hi
  rw [four_is (by omega) (by omega)] at hn
  obtain ⟨q, hq, hr⟩ := own_run c (s := newKS c i 0 0 0 draw) (by rw [hn]) 4 mem popD (by simp) (by rw [hn]; simp only []; rw [e]; exact hd)
  rw [hn] at hr
  simp only [] at hr
  rw [e, ← hn] at hr
  have ho' : ¬ d.out = 1 := by omega
  have hu : ownEnd c (newKS c i 0 0 0 draw) d = ⟨.take, i, 0, 0, 0, draw, 0, false, d, takePM, 0, ⟨.stealTop, 0, 0, 0, 0⟩⟩ := by
    rw [hn]; unfold ownEnd; rw [if_neg ho']; unfold unpackK; simp only []; rw [if_neg (by omega), if_neg (by omega)]
  simp only [] at hr
  rw [hu] at hr
  obtain ⟨q2, hq2, hr2⟩ := take_run c (s := ⟨.take, i, 0, 0, 0, draw, 0, false, d, takePM, 0, ⟨.stealTop, 0, 0, 0, 0⟩⟩) rfl 3 m1 takePM (by simp) (by rw [e2]) (by rw [e2]; exact hp0)
  rw [e2] at hr2
  simp only [] at hr2
  have hcm : min (mget m2 (pPack c p 0)) 4 = t.length := by
    have := pack_is hg hpr.1 hpr.2 (j := 0) (by omega) (by omega)
    rw [g2 _ (by omega), g, hc.1]; omega
  have hct : mget m2 (pTask c p 0) = t[0]?.getD 0 := by
    have ht0 := task_is (c := c) (p := p) (j := 0) (by omega)
    have := pack_is hg hpr.1 hpr.2 (j := 2 + (0 : Nat)) (by omega) (by omega)
    have hc0 := hc.2 0 ht
    rw [show ((0 : Nat) : Int) = 0 from rfl] at ht0 hc0 this
    rw [g2 _ (by omega), g, hc0]
  have e3 : skRun c (q + q2) (mem, newKS c i 0 0 0 draw) = (m2, ⟨.many, i, 0, 0, 0, draw, 0, false, d, ⟨.done, [], 0, p, x⟩, 0, ⟨.stealTop, 0, 0, 0, 0⟩⟩) := by
    rw [skRun_add, hr]; exact hr2
  have e4 : skRun c (q + q2 + 1) (mem, newKS c i 0 0 0 draw) = (m2, ⟨.first, i, p, 0, t.length, draw, 0, false, d, ⟨.done, [], 0, p, x⟩, 0, ⟨.stealTop, 0, 0, 0, 0⟩⟩) := by
    rw [skRun, e3]
    simp only [skStep]
    rw [hcm]
    unfold unpackK
    simp only []
    rw [if_pos ⟨hp0, by omega⟩]
  have e5 : skRun c (q + q2 + 1 + 1) (mem, newKS c i 0 0 0 draw) = (m2, ⟨.done, i, p, 0 + 1, t.length, draw, t[0]?.getD 0, true, d, ⟨.done, [], 0, p, x⟩, 0, ⟨.stealTop, 0, 0, 0, 0⟩⟩) := by
    rw [skRun, e4, ← hct]; rfl
  refine ⟨m2, _, skRun_upto e5 rfl (by omega), ⟨rfl, rfl, rfl, rfl, rfl, rfl⟩, hinv2.len, fun a ha => by rw [g2 a ha, g]⟩

/-- A task that is put into the deque, where there is room. -/
theorem add_deq {c : Cfg} {k : Int} {mem ts : List Int} {x : Int} (hg : Good c) (hk : 0 ≤ k ∧ k < c.mks) (hlen : (mem.length : Int) = allI c) (h : DInv c k mem ts) (hr : (ts.length : Int) < c.dq) :
    ∃ mem' s, amRun c k 4 (mem, newAM c k x) = (mem', s) ∧ s.pc = .done ∧ (mem'.length : Int) = allI c ∧ DInv c k mem' (ts ++ [x]) ∧ ∀ (p i : Int), 1 ≤ p → p ≤ manyI c → 0 ≤ i → i ≤ 5 → mget mem' (pPack c p i) = mget mem (pPack c p i) := by
  have hq : 2 ≤ c.dq ∧ c.dq ≤ 8 := by unfold Good at hg; omega
  have hn : newAM c k x = ⟨.own, x, ⟨.pushBottom, 0, 0, x, 0, false⟩, putOne x, false⟩ := by unfold newAM; rw [if_pos hk]
  have hbot := h.bot
  have e1 : amRun c k 1 (mem, newAM c k x) = (mem, ⟨.own, x, ⟨.pushTop, ts.length, 0, x, 0, false⟩, putOne x, false⟩) := by
    rw [amRun, amRun, hn]; simp only []; rw [ow_bottom, hbot]
  have e2 : amRun c k 2 (mem, newAM c k x) = (mem, ⟨.own, x, ⟨.pushEntry, ts.length, 0, x, 0, false⟩, putOne x, false⟩) := by
    rw [amRun, e1]; simp only []; rw [ow_top (by rw [h.top, ahead_small (by omega) (by omega)]; omega), h.top]
  have hent := ent_is hg hk (j := ts.length) (by omega) hr
  have e3 : amRun c k 3 (mem, newAM c k x) = (mput mem (pEnd c k (2 + ts.length)) x, ⟨.own, x, ⟨.pushEnd, ts.length, 0, x, 0, false⟩, putOne x, false⟩) := by
    rw [amRun, e2]; simp only []; rw [ow_entry, hent]
  have e4 : amRun c k 4 (mem, newAM c k x) = (mput (mput mem (pEnd c k (2 + ts.length)) x) (pEnd c k 1) (ts.length + 1), ⟨.done, x, ⟨.done, ts.length, 0, 0, 1, false⟩, putOne x, false⟩) := by
    rw [amRun, e3]; simp only []; rw [ow_end, show ((ts.length : Int) + 1) % 18446744073709551616 = ts.length + 1 from by omega]
  have z2 := pEnd_is hg hk (j := 2 + (ts.length : Int)) (by omega) (by omega)
  have z1 := pEnd_is hg hk (j := 1) (by omega) (by omega)
  have z0 := pEnd_is hg hk (j := 0) (by omega) (by omega)
  have w2 := pEnd_lt hg hk (j := 2 + (ts.length : Int)) (by omega) (by omega)
  have w1 := pEnd_lt hg hk (j := 1) (by omega) (by omega)
  refine ⟨_, _, e4, rfl, by rw [mput_len, mput_len]; exact hlen, ⟨?_, ?_, fun j hj => ?_⟩, fun p i p1 p2 i1 i2 => ?_⟩
  · rw [mget_other (by omega), mget_other (by omega)]; exact h.top
  · rw [mget_put (by rw [mput_len]; omega)]; simp
  · simp at hj
    have zj := pEnd_is hg hk (j := 2 + (j : Int)) (by omega) (by omega)
    by_cases e : j = ts.length
    · subst e
      rw [mget_other (by omega), mget_put (by omega)]
      simp
    · rw [mget_other (by omega), mget_other (by omega), h.ents j (by omega), List.getElem?_append_left (by omega)]
  · rw [mget_other (Ne.symm (w1.2 p i p1 p2 i1 i2)), mget_other (Ne.symm (w2.2 p i p1 p2 i1 i2))]

/-- Numbers from 10 on. -/
def tens (n : Nat) : List Int := (List.range n).map fun (j : Nat) => (j : Int) + 10

theorem tens_len (n : Nat) : (tens n).length = n := by simp [tens]

theorem tens_succ (n : Nat) : tens (n + 1) = tens n ++ [(n : Int) + 10] := by simp [tens, List.range_succ]

/-- Numbers from 70 on. -/
def seventy (n : Nat) : List Int := ([70, 71, 72, 73] : List Int).take n

theorem seventy_len {n : Nat} (h : n ≤ 4) : (seventy n).length = n := by simp [seventy]; omega

theorem seventy_get {n j : Nat} (h : n ≤ 4) (hj : j < n) : (seventy n)[j]?.getD 0 = (j : Int) + 70 := by
  unfold seventy
  rw [List.getElem?_take, if_pos hj]
  match j, (show j < 4 by omega) with
  | 0, _ => rfl
  | 1, _ => rfl
  | 2, _ => rfl
  | 3, _ => rfl

/-- What is in the deque, and in the bag, ahead of a search. -/
structure OwnInv (c : Cfg) (i : Int) (k : Nat) (mem : List Int) (j : Int) : Prop where
  len : (mem.length : Int) = allI c
  cont : Content c mem 1 (seventy k)
  deq : 0 < j → DInv c i mem (tens j.toNat)
  flat : j ≤ 0 → Flat c i mem

theorem DInv.flat {c : Cfg} {i : Int} {mem : List Int} (h : DInv c i mem []) : Flat c i mem := ⟨0, .inl rfl, h.top, h.bot⟩

theorem own_round {c : Cfg} {i j draw : Int} {k : Nat} {mem : List Int} (hg : Good c) (hi : 0 ≤ i ∧ i < c.mks) (h1 : 1 ≤ k) (hk : k ≤ 4) (h : OwnInv c i k mem j) (hj : 1 - (k : Int) < j) (hjd : j ≤ c.dq) :
    ∃ mem' s, skRun c 40 (mem, newKS c i 1 (max 1 (1 - j)) k draw) = (mem', s) ∧ Got s (if j ≤ 0 then 71 - j else j + 9) 1 (max 1 (2 - j)) k ∧ OwnInv c i k mem' (j - 1) := by
  have hmb := manyI_bound hg
  have hpk : ∀ x : Int, 0 ≤ x → x ≤ 5 → pPack c 1 x ≠ pEnd c i 0 ∧ pPack c 1 x ≠ pEnd c i 1 := fun x x0 x1 => by
    have hq : 2 ≤ c.dq ∧ c.dq ≤ 8 := by unfold Good at hg; omega
    exact ⟨Ne.symm ((pEnd_lt hg hi (j := 0) (by omega) (by omega)).2 1 x (by omega) (by omega) x0 x1), Ne.symm ((pEnd_lt hg hi (j := 1) (by omega) (by omega)).2 1 x (by omega) (by omega) x0 x1)⟩
  by_cases hj0 : j ≤ 0
  · obtain ⟨m, s, e, g, l, f⟩ := seek_bag (draw := draw) (a := 1 - j) (k := k) hg hi (p := 1) (by omega) (by omega) (by omega) (by omega) h.len (h.flat hj0)
    refine ⟨m, s, by rw [show max 1 (1 - j) = 1 - j from by omega]; exact e, ?_, l, h.cont.frame (by rw [seventy_len hk]; omega) (fun x _ _ _ => f _), fun h' => by omega, fun _ => (h.flat hj0).same f⟩
    obtain ⟨q, hq⟩ : ∃ q : Nat, (q : Int) = 1 - j := ⟨(1 - j).toNat, by omega⟩
    have hc := h.cont.2 q (by rw [seventy_len hk]; omega)
    rw [seventy_get hk (by omega), hq] at hc
    rw [hc] at g
    rw [if_pos hj0, show max 1 (2 - j) = 1 - j + 1 from by omega, show 71 - j = 1 - j + 70 from by omega]
    exact g
  · obtain ⟨q, rfl⟩ : ∃ q : Nat, j = (q : Int) + 1 := ⟨(j - 1).toNat, by omega⟩
    have hd := h.deq (by omega)
    rw [show ((q : Int) + 1).toNat = q + 1 from by omega, tens_succ] at hd
    obtain ⟨m, s, e, g, l, f, f0, fr⟩ := seek_own (p := 1) (a := 1) (k := k) (draw := draw) hg hi (by omega) (by omega) h.len hd (by rw [tens_len]; omega)
    rw [tens_len] at f f0
    refine ⟨m, s, by rw [show max 1 (1 - ((q : Int) + 1)) = 1 from by omega]; exact e, ?_, l, h.cont.frame (by rw [seventy_len hk]; omega) (fun x x0 x1 _ => fr _ (hpk x x0 x1).1 (hpk x x0 x1).2), fun h' => ?_, fun h' => ?_⟩
    · rw [if_neg (by omega), show max 1 (2 - ((q : Int) + 1)) = 1 from by omega, show (q : Int) + 1 + 9 = q + 10 from by omega]
      exact g
    · rw [show ((q : Int) + 1 - 1).toNat = q from by omega]
      exact f (by omega)
    · exact f0 (by omega)

/-- Ahead of everything: a packet of so many tasks is put. -/
theorem own_put {c : Cfg} {i : Int} {k : Nat} (hg : Good c) (hi : 0 ≤ i ∧ i < c.mks) (h1 : 1 ≤ k) (hk : k ≤ 4) :
    ∃ mem j x S, pmRun c 14 (firstL c, putM (seventy k)) = (mem, ⟨.done, seventy k, j, 1, x⟩) ∧ Inv c mem [1] S ∧ Content c mem 1 (seventy k) ∧ DInv c i mem [] := by
  have hmb := manyI_bound hg
  have hq : 2 ≤ c.dq ∧ c.dq ≤ 8 := by unfold Good at hg; omega
  have hf := seqFirst hg
  obtain ⟨m, hm⟩ : ∃ m, (manyI c).toNat = m + 1 := ⟨(manyI c).toNat - 1, by omega⟩
  rw [hm] at hf
  obtain ⟨mem, j, x, e, hinv, hc, fr⟩ := seqPutF (t := seventy k) hg hf (by rw [seventy_len hk]; omega) (by rw [seventy_len hk]; exact hk)
  have hfr : ∀ y : Int, 0 ≤ y → y < 2 + c.dq → mget mem (pEnd c i y) = 0 := fun y y0 y1 => by
    have z := pEnd_is hg hi y0 y1
    rw [fr _ (by omega) (by omega) (fun q q0 q1 => (pEnd_lt hg hi y0 y1).2 1 q (by omega) (by omega) q0 q1), firstL_end hg hi y0 y1]
  refine ⟨mem, j, x, _, pmRun_upto e rfl (by rw [seventy_len hk]; omega), hinv, hc, hfr 0 (by omega) (by omega), by rw [hfr 1 (by omega) (by omega)]; rfl, fun j hj => by simp at hj⟩

/-- The first task comes out of the pool. -/
theorem own_first {c : Cfg} {i draw : Int} {k : Nat} {mem S : List Int} (hg : Good c) (hi : 0 ≤ i ∧ i < c.mks) (h1 : 1 ≤ k) (hk : k ≤ 4) (hinv : Inv c mem [1] S) (hc : Content c mem 1 (seventy k)) (hd : DInv c i mem []) :
    ∃ mem' s, skRun c 40 (mem, newKS c i 0 0 0 draw) = (mem', s) ∧ Got s 70 1 1 k ∧ (mem'.length : Int) = allI c ∧ Content c mem' 1 (seventy k) ∧ DInv c i mem' (tens 0) := by
  have hmb := manyI_bound hg
  have hq : 2 ≤ c.dq ∧ c.dq ≤ 8 := by unfold Good at hg; omega
  obtain ⟨m, s, e, g, l, f⟩ := seek_pool (draw := draw) hg hi hinv hc (by rw [seventy_len hk]; omega) (by rw [seventy_len hk]; exact hk) hd.flat
  rw [seventy_len hk, seventy_get hk (by omega)] at g
  have hE : ∀ y : Int, 0 ≤ y → y < 2 + c.dq → mget m (pEnd c i y) = mget mem (pEnd c i y) := fun y y0 y1 => f _ (by have := pEnd_is hg hi y0 y1; omega)
  refine ⟨m, s, e, g, l, hc.frame (by rw [seventy_len hk]; exact hk) (fun x x0 x1 _ => f _ (by have := pack_is hg (p := 1) (by omega) (by omega) x0 x1; omega)), ?_, ?_, fun j hj => by simp [tens] at hj⟩
  · rw [hE 0 (by omega) (by omega)]; exact hd.top
  · rw [hE 1 (by omega) (by omega)]; exact hd.bot

/-- One more task is in the deque. -/
theorem own_add {c : Cfg} {i : Int} {k n : Nat} {mem : List Int} (hg : Good c) (hi : 0 ≤ i ∧ i < c.mks) (hk : k ≤ 4) (hl : (mem.length : Int) = allI c) (hc : Content c mem 1 (seventy k)) (hd : DInv c i mem (tens n)) (hn : (n : Int) < c.dq) :
    ∃ mem' s, amRun c i 14 (mem, newAM c i ((n : Int) + 10)) = (mem', s) ∧ (mem'.length : Int) = allI c ∧ Content c mem' 1 (seventy k) ∧ DInv c i mem' (tens (n + 1)) := by
  have hmb := manyI_bound hg
  obtain ⟨m, s, e, hp, l, d, f⟩ := add_deq (x := (n : Int) + 10) hg hi hl hd (by rw [tens_len]; exact hn)
  rw [← tens_succ] at d
  exact ⟨m, s, amRun_upto e hp (by omega), l, hc.frame (by rw [seventy_len hk]; exact hk) (fun x x0 x1 _ => f 1 x (by omega) (by omega) x0 x1), d⟩

end Go.Proofs.YtapdpclgbpgklaaGreat
