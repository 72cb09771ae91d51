/- Packets that are put, taken and put back one at a time: what comes of each. No program. -/
import Derived.Test.YtchlbdfapgeebaaSeq
namespace Go.Proofs.Ytchlbdfapgeebaa
open Go.RowKit

abbrev putM (t : List Int) : PM := ⟨.spare, t, 0, 0, ⟨.popHead, 5, 0, 0, 0⟩⟩
abbrev takeM : PM := ⟨.last, [], 0, 0, ⟨.popHead, 4, 0, 0, 0⟩⟩
abbrev backM (p : Int) : PM := ⟨.last, [], 0, 0, ⟨.pushHead, 5, p, 0, 0⟩⟩

theorem lnk_big {c : Cfg} (hg : Good c) {p : Int} (h : 1 ≤ p ∧ p ≤ manyI c) : 16 ≤ lnk c p ∧ lnk c p < allI c := (pack_is hg h.1 h.2 (by omega) (by omega)).2

theorem Inv.mono {c : Cfg} {mem : List Int} {P S P' S' : List Int} (hi : Inv c mem P S) (mem' : List Int) (hl : mem'.length = mem.length) (h1 : Linked (lnk c) mem' 4 P') (h2 : Linked (lnk c) mem' 5 S') (h3 : (P' ++ S').Sublist (P ++ S)) : Inv c mem' P' S' :=
  ⟨by rw [hl]; exact hi.len, h1, h2, fun p hp => hi.rng p (h3.subset hp), hi.nd.sublist h3⟩

theorem seqTakeF {c : Cfg} {mem : List Int} {p : Int} {P S : List Int} (hg : Good c) (hi : Inv c mem (p :: P) S) :
    ∃ mem' x, pmRun c 3 (mem, takeM) = (mem', ⟨.done, [], 0, p, x⟩) ∧ Inv c mem' P S ∧ ∀ a, a ≠ 4 → mget mem' a = mget mem a := by
  have hp := hi.rng p (by simp)
  have hA := allI_bound hg
  have hlen := hi.len
  have h4 : (0 : Int) ≤ 4 ∧ (4 : Int) < mem.length := by omega
  have e0 : loI (mget mem 4) = p := hi.pool.1
  have e := run_pop (c := c) (t := []) (hd := 4) (i := 0) (h := 0) (l := 0) (p0 := 0) (j := 0) h4 (by rw [e0]; omega)
  rw [e0] at e
  have hr := loI_range (mget mem (lnk c p))
  refine ⟨_, _, e, ?_, ?_⟩
  · refine hi.mono _ (mput_len _ _ _) ?_ ?_ (by simp)
    · refine Linked.head hi.pool.2 ?_ (fun q hq => ?_)
      · rw [mget_put h4, loI_turn hr.1 hr.2]
      · have := lnk_big hg (hi.rng q (by simp [hq]))
        rw [mget_other (by omega)]
    · refine hi.spare.put (by omega) (fun q hq => ?_)
      have := lnk_big hg (hi.rng q (by simp [hq]))
      omega
  · intro a ha
    rw [mget_other ha]

theorem seqTake {c : Cfg} {mem : List Int} {p : Int} {P S : List Int} (hg : Good c) (hi : Inv c mem (p :: P) S) :
    ∃ mem' x, pmRun c 14 (mem, takeM) = (mem', ⟨.done, [], 0, p, x⟩) ∧ Inv c mem' P S ∧ ∀ q j, 1 ≤ q → q ≤ manyI c → 0 ≤ j → j ≤ 5 → mget mem' (pPack c q j) = mget mem (pPack c q j) := by
  obtain ⟨mem', x, e, hi', hf⟩ := seqTakeF hg hi
  refine ⟨mem', x, pmRun_upto e rfl (by omega), hi', fun q j h1 h2 h3 h4 => hf _ ?_⟩
  have := (pack_is hg h1 h2 h3 h4).2
  omega

theorem seqTake0 {c : Cfg} {mem : List Int} {S : List Int} (hi : Inv c mem [] S) : ∃ x, pmRun c 14 (mem, takeM) = (mem, ⟨.done, [], 0, 0, x⟩) := by
  have e : pmRun c 1 (mem, takeM) = (mem, ⟨.done, [], 0, 0, _⟩) := st_popHead0 (show loI (mget mem 4) = 0 from hi.pool)
  exact ⟨_, pmRun_upto e rfl (by omega)⟩

theorem seqBackF {c : Cfg} {mem : List Int} {p : Int} {P S : List Int} (hg : Good c) (hi : Inv c mem P S) (hp : 1 ≤ p ∧ p ≤ manyI c) (hn : p ∉ P ++ S) :
    ∃ mem' x, pmRun c 3 (mem, backM p) = (mem', ⟨.done, [], 0, p, x⟩) ∧ Inv c mem' P (p :: S) ∧ ∀ a, a ≠ 5 → a ≠ lnk c p → mget mem' a = mget mem a := by
  have hA := allI_bound hg
  have hmb := manyI_bound hg
  have hlen := hi.len
  have hlp := lnk_big hg hp
  have h5 : (0 : Int) ≤ 5 ∧ (5 : Int) < mem.length := by omega
  have e := run_push (c := c) (t := []) (hd := 5) (i := p) (h := 0) (l := 0) (p0 := 0) (j := 0) h5 (by omega)
  have hr := loI_range (mget mem 5)
  have hne : ∀ q ∈ P ++ S, lnk c q ≠ lnk c p := fun q hq => pack_ne hg (hi.rng q hq).1 (hi.rng q hq).2 (by omega) (by omega) hp.1 hp.2 (by omega) (by omega) (.inl (fun e => hn (e ▸ hq)))
  have hbig : ∀ q ∈ P ++ S, 16 ≤ lnk c q := fun q hq => (lnk_big hg (hi.rng q hq)).1
  refine ⟨_, _, e, ⟨by rw [mput_len, mput_len]; exact hlen, ?_, ?_, ?_, ?_⟩, ?_⟩
  · refine (hi.pool.put (by omega) (fun q hq => hne q (by simp [hq]))).put (by omega) (fun q hq => ?_)
    have := hbig q (by simp [hq]); omega
  · refine ⟨?_, Linked.head hi.spare ?_ (fun q hq => ?_)⟩
    · rw [mget_put (by rw [mput_len]; exact h5), loI_turn (by omega) (by omega)]
    · rw [mget_other (by omega), mget_put (by omega)]
      unfold loI; omega
    · have := hbig q (by simp [hq])
      rw [mget_other (by omega), mget_other (hne q (by simp [hq]))]
  · intro q hq
    rcases List.mem_append.1 hq with h | h
    · exact hi.rng q (by simp [h])
    · rcases List.mem_cons.1 h with rfl | h
      · exact hp
      · exact hi.rng q (by simp [h])
  · have h1 : List.Perm (P ++ p :: S) (p :: (P ++ S)) := List.perm_middle
    rw [h1.nodup_iff, List.nodup_cons]
    exact ⟨hn, hi.nd⟩
  · intro a h1 h2
    rw [mget_other h1, mget_other h2]

theorem seqBack {c : Cfg} {mem : List Int} {p : Int} {P S : List Int} (hg : Good c) (hi : Inv c mem P S) (hp : 1 ≤ p ∧ p ≤ manyI c) (hn : p ∉ P ++ S) :
    ∃ mem' x, pmRun c 14 (mem, backM p) = (mem', ⟨.done, [], 0, p, x⟩) ∧ Inv c mem' P (p :: S) ∧ ∀ q j, 1 ≤ q → q ≤ manyI c → 0 ≤ j → j ≤ 5 → j ≠ 1 → mget mem' (pPack c q j) = mget mem (pPack c q j) := by
  obtain ⟨mem', x, e, hi', hf⟩ := seqBackF hg hi hp hn
  refine ⟨mem', x, pmRun_upto e rfl (by omega), hi', fun q j h1 h2 h3 h4 h6 => hf _ ?_ ?_⟩
  · have := (pack_is hg h1 h2 h3 h4).2
    omega
  · exact pack_ne hg h1 h2 h3 h4 hp.1 hp.2 (by omega) (by omega) (.inr h6)

/-- Three steps that take a spare packet. -/
theorem run_spare {c : Cfg} {mem : List Int} {t : List Int} {hd i h l p0 : Int} {j : Nat} (hh : 0 ≤ hd ∧ hd < mem.length) (hz : loI (mget mem hd) ≠ 0) :
    pmRun c 3 (mem, ⟨.spare, t, j, p0, ⟨.popHead, hd, i, h, l⟩⟩) = (mput mem hd (turnI (mget mem hd) (loI (mget mem (lnk c (loI (mget mem hd)))))), ⟨.fill, t, j, loI (mget mem hd), ⟨.done, hd, loI (mget mem hd), mget mem hd, loI (mget mem (lnk c (loI (mget mem hd))))⟩⟩) := by
  simp only [pmRun]
  rw [sp_popHead hz]
  simp only []
  rw [sp_popLink]
  simp only []
  rw [sp_popSwap (mhit_self hh) hz]

theorem seqPutF {c : Cfg} {mem : List Int} {p : Int} {P S t : List Int} (hg : Good c) (hi : Inv c mem P (p :: S)) (ht : 0 < t.length) (ht4 : t.length ≤ 4) :
    ∃ mem' j x, pmRun c (7 + t.length) (mem, putM t) = (mem', ⟨.done, t, j, p, x⟩) ∧ Inv c mem' (p :: P) S ∧ Content c mem' p t ∧ ∀ a, a ≠ 4 → a ≠ 5 → (∀ j, 0 ≤ j → j ≤ 5 → a ≠ pPack c p j) → mget mem' a = mget mem a := by
  have hp := hi.rng p (by simp)
  have hA := allI_bound hg
  have hmb := manyI_bound hg
  have hlen := hi.len
  have hlp := lnk_big hg hp
  have h5 : (0 : Int) ≤ 5 ∧ (5 : Int) < mem.length := by omega
  have e0 : loI (mget mem 5) = p := hi.spare.1
  have e1 := run_spare (c := c) (t := t) (hd := 5) (i := 0) (h := 0) (l := 0) (p0 := 0) (j := 0) h5 (by rw [e0]; omega)
  rw [e0] at e1
  have hr := loI_range (mget mem (lnk c p))
  have hnd := hi.nd
  have hperm : List.Perm (P ++ p :: S) (p :: (P ++ S)) := List.perm_middle
  rw [hperm.nodup_iff, List.nodup_cons] at hnd
  obtain ⟨hn, hnd⟩ := hnd
  have hrng : ∀ q ∈ P ++ S, 1 ≤ q ∧ q ≤ manyI c := fun q hq => hi.rng q (by
    rcases List.mem_append.1 hq with h | h
    · simp [h]
    · simp [h])
  have hne : ∀ q ∈ P ++ S, q ≠ p := fun q hq e => hn (e ▸ hq)
  have hbig : ∀ q ∈ P ++ S, 16 ≤ lnk c q := fun q hq => (lnk_big hg (hrng q hq)).1
  -- the memory behind the pop
  generalize hm1 : mput mem 5 (turnI (mget mem 5) (loI (mget mem (lnk c p)))) = m1 at e1
  have l1 : m1.length = mem.length := by rw [← hm1, mput_len]
  have f1 : ∀ a, a ≠ 5 → mget m1 a = mget mem a := fun a ha => by rw [← hm1, mget_other ha]
  have g1 : loI (mget m1 5) = loI (mget mem (lnk c p)) := by rw [← hm1, mget_put h5, loI_turn hr.1 hr.2]
  -- the tasks
  have e2 := run_fillAll (c := c) (mem := m1) (t := t) (p := p) (x := ⟨.done, 5, p, mget mem 5, loI (mget mem (lnk c p))⟩) ht
  generalize hm2 : fillTo c p t m1 t.length = m2 at e2
  have l2 : m2.length = mem.length := by rw [← hm2, fillTo_len, l1]
  have f2 : ∀ a, (∀ j : Nat, j < t.length → a ≠ pTask c p j) → mget m2 a = mget m1 a := fun a ha => by rw [← hm2]; exact fillTo_other _ ha
  have g2 : ∀ j, j < t.length → mget m2 (pTask c p j) = t[j]?.getD 0 := fun j hj => by
    rw [← hm2]; exact fillTo_task hg hp.1 hp.2 (by rw [l1]; exact hlen) _ ht4 j hj
  have e3 : pmRun c 1 (m2, ⟨.many, t, t.length, p, ⟨.done, 5, p, mget mem 5, loI (mget mem (lnk c p))⟩⟩) = (mput m2 (pPack c p 0) t.length, ⟨.last, t, t.length, p, ⟨.pushHead, 4, p, 0, 0⟩⟩) := st_many _
  generalize hm3 : mput m2 (pPack c p 0) t.length = m3 at e3
  have hp0 := pack_is hg hp.1 hp.2 (j := 0) (by omega) (by omega)
  have l3 : m3.length = mem.length := by rw [← hm3, mput_len, l2]
  have f3 : ∀ a, a ≠ pPack c p 0 → mget m3 a = mget m2 a := fun a ha => by rw [← hm3, mget_other ha]
  have g3 : mget m3 (pPack c p 0) = t.length := by rw [← hm3, mget_put (by rw [l2]; omega)]
  have h4 : (0 : Int) ≤ 4 ∧ (4 : Int) < m3.length := by rw [l3]; omega
  have e4 := run_push (c := c) (mem := m3) (t := t) (hd := 4) (i := p) (h := 0) (l := 0) (p0 := p) (j := t.length) h4 (by omega)
  have eAll : pmRun c (3 + t.length + 1 + 3) (mem, putM t) = (mput (mput m3 (lnk c p) (loI (mget m3 4))) 4 (turnI (mget m3 4) p), ⟨.done, t, t.length, p, ⟨.done, 4, p, mget m3 4, loI (mget m3 4)⟩⟩) := by
    rw [pmRun_add, pmRun_add, pmRun_add, e1, e2, e3, e4]
  have ftask : ∀ (a : Int), a < 16 → ∀ j : Nat, j < t.length → a ≠ pTask c p j := fun a ha j hj => by
    have := (pack_is hg hp.1 hp.2 (j := 2 + j) (by omega) (by omega)).2
    rw [task_is (by omega)]; omega
  have fsm : ∀ a, a < 16 → a ≠ 5 → mget m3 a = mget mem a := fun a ha h => by rw [f3 a (by omega), f2 a (ftask a ha), f1 a h]
  have fq : ∀ q k, 1 ≤ q → q ≤ manyI c → 0 ≤ k → k ≤ 5 → q ≠ p → mget m3 (pPack c q k) = mget mem (pPack c q k) := fun q k k1 k2 k3 k4 k5 => by
    rw [f3 _ (pack_ne hg k1 k2 k3 k4 hp.1 hp.2 (by omega) (by omega) (.inl k5)), f2 _ (fun j hj => by rw [task_is (by omega)]; exact pack_ne hg k1 k2 k3 k4 hp.1 hp.2 (by omega) (by omega) (.inl k5)), f1 _ (by have := (pack_is hg k1 k2 k3 k4).2; omega)]
  have hr4 := loI_range (mget m3 4)
  rw [show 3 + t.length + 1 + 3 = 7 + t.length from by omega] at eAll
  refine ⟨_, _, _, eAll, ⟨by rw [mput_len, mput_len, l3]; exact hlen, ?_, ?_, ?_, ?_⟩, ⟨?_, ?_⟩, ?_⟩
  · refine ⟨by rw [mget_put (by rw [mput_len]; exact h4), loI_turn (by omega) (by omega)], ?_⟩
    refine Linked.head hi.pool ?_ (fun q hq => ?_)
    · rw [mget_other (by omega), mget_put (by rw [l3]; omega), fsm 4 (by omega) (by omega)]
      unfold loI; omega
    · have hq' : q ∈ P ++ S := by simp [hq]
      have := hbig q hq'
      rw [mget_other (by omega), mget_other (pack_ne hg (hrng q hq').1 (hrng q hq').2 (by omega) (by omega) hp.1 hp.2 (by omega) (by omega) (.inl (hne q hq'))), fq q 1 (hrng q hq').1 (hrng q hq').2 (by omega) (by omega) (hne q hq')]
  · refine Linked.head hi.spare.2 ?_ (fun q hq => ?_)
    · rw [mget_other (by omega), mget_other (by omega), f3 _ (by omega), f2 _ (ftask 5 (by omega)), g1]
    · have hq' : q ∈ P ++ S := by simp [hq]
      have := hbig q hq'
      rw [mget_other (by omega), mget_other (pack_ne hg (hrng q hq').1 (hrng q hq').2 (by omega) (by omega) hp.1 hp.2 (by omega) (by omega) (.inl (hne q hq'))), fq q 1 (hrng q hq').1 (hrng q hq').2 (by omega) (by omega) (hne q hq')]
  · intro q hq
    rcases List.mem_cons.1 hq with rfl | h
    · exact hp
    · exact hrng q h
  · exact List.nodup_cons.2 ⟨hn, hnd⟩
  · rw [mget_other (by omega), mget_other (pack_ne hg hp.1 hp.2 (by omega) (by omega) hp.1 hp.2 (by omega) (by omega) (.inr (by omega))), g3]
  · intro j hj
    have ht2 := task_is (c := c) (p := p) (j := j) (by omega)
    have := (pack_is hg hp.1 hp.2 (j := 2 + j) (by omega) (by omega)).2
    rw [mget_other (by rw [ht2]; omega), mget_other (by rw [ht2]; exact pack_ne hg hp.1 hp.2 (by omega) (by omega) hp.1 hp.2 (by omega) (by omega) (.inr (by omega))), f3 _ (by rw [ht2]; exact pack_ne hg hp.1 hp.2 (by omega) (by omega) hp.1 hp.2 (by omega) (by omega) (.inr (by omega))), g2 j hj]
  · intro a h1 h2 h3
    rw [mget_other h1, mget_other (h3 1 (by omega) (by omega)), f3 _ (h3 0 (by omega) (by omega)), f2 _ (fun j hj => by rw [task_is (by omega)]; exact h3 (2 + j) (by omega) (by omega)), f1 _ h2]

theorem seqPut {c : Cfg} {mem : List Int} {p : Int} {P S t : List Int} (hg : Good c) (hi : Inv c mem P (p :: S)) (ht : 0 < t.length) (ht4 : t.length ≤ 4) :
    ∃ mem' j x, pmRun c 14 (mem, putM t) = (mem', ⟨.done, t, j, p, x⟩) ∧ Inv c mem' (p :: P) S ∧ Content c mem' p t ∧ ∀ q j, 1 ≤ q → q ≤ manyI c → 0 ≤ j → j ≤ 5 → q ≠ p → mget mem' (pPack c q j) = mget mem (pPack c q j) := by
  obtain ⟨mem', j, x, e, hi', hc, hf⟩ := seqPutF hg hi ht ht4
  have hp := hi.rng p (by simp)
  refine ⟨mem', j, x, pmRun_upto e rfl (by omega), hi', hc, fun q k h1 h2 h3 h4 h5 => hf _ ?_ ?_ (fun i i1 i2 => pack_ne hg h1 h2 h3 h4 hp.1 hp.2 i1 i2 (.inl h5))⟩
  · have := (pack_is hg h1 h2 h3 h4).2
    omega
  · have := (pack_is hg h1 h2 h3 h4).2
    omega

/-- Numbers from p on. -/
def upL (p : Int) : Nat → List Int
  | 0 => []
  | n + 1 => p :: upL (p + 1) n

theorem upL_mem {p : Int} {n : Nat} : ∀ x ∈ upL p n, p ≤ x ∧ x < p + n := by
  induction n generalizing p with
  | zero => intro x hx; cases hx
  | succ n ih =>
    intro x hx
    rcases List.mem_cons.1 hx with rfl | h
    · omega
    · have := ih x h; omega

theorem upL_len (p : Int) (n : Nat) : (upL p n).length = n := by
  induction n generalizing p with
  | zero => rfl
  | succ n ih => rw [upL, List.length_cons, ih]

theorem upL_nodup (p : Int) (n : Nat) : (upL p n).Nodup := by
  induction n generalizing p with
  | zero => exact List.nodup_nil
  | succ n ih =>
    refine List.nodup_cons.2 ⟨fun h => ?_, ih _⟩
    have := upL_mem _ h; omega

theorem linkTo_get {c : Cfg} (hg : Good c) (k : Nat) (hk : (k : Int) < manyI c) : mget (linkTo c k) 4 = 0 ∧ mget (linkTo c k) 5 = 1 ∧ ∀ p, 1 ≤ p → p ≤ manyI c → mget (linkTo c k) (lnk c p) = if p ≤ k then p + 1 else 0 := by
  have hA := allI_bound hg
  induction k with
  | zero =>
    have hl : (linkTo c 0).length = (allI c).toNat := linkTo_len c 0
    have hz : ∀ a : Int, a ≠ 5 → mget (linkTo c 0) a = 0 := fun a ha => by
      unfold mget
      split
      · next h =>
        unfold linkTo
        rw [List.getElem?_set_ne (by omega), List.getElem?_replicate]
        split <;> rfl
      · rfl
    refine ⟨hz 4 (by omega), ?_, fun p h1 h2 => ?_⟩
    · unfold mget
      rw [if_pos (by rw [hl]; omega)]
      unfold linkTo
      rw [show (5 : Int).toNat = 5 from rfl, List.getElem?_set_self (by simp; omega)]
      rfl
    · have := lnk_big hg ⟨h1, h2⟩
      rw [hz _ (by omega), if_neg (by omega)]
  | succ k ih =>
    obtain ⟨i1, i2, i3⟩ := ih (by omega)
    have hb : 16 ≤ pPack c ((k : Int) + 1) 1 ∧ pPack c ((k : Int) + 1) 1 < allI c := lnk_big hg (p := (k : Int) + 1) ⟨by omega, by omega⟩
    have hl := linkTo_len c k
    rw [linkTo]
    refine ⟨by rw [mget_other (by omega)]; exact i1, by rw [mget_other (by omega)]; exact i2, fun p h1 h2 => ?_⟩
    by_cases e : p = k + 1
    · subst e
      rw [mget_put (by rw [hl]; omega), if_pos (by omega)]; omega
    · rw [mget_other (pack_ne hg h1 h2 (by omega) (by omega) (by omega) (by omega) (by omega) (by omega) (.inl e)), i3 p h1 h2]
      by_cases e2 : p ≤ k
      · rw [if_pos e2, if_pos (by omega)]
      · rw [if_neg e2, if_neg (by omega)]

theorem freeTo_get {c : Cfg} (hg : Good c) (j : Nat) (hj : (j : Int) ≤ nN c - 1) (a : Int) (ha : a < 7 ∨ (pksI c ≤ a ∧ a < node0I c)) : mget (freeTo c j) a = mget (linkTo c (manyI c - 1).toNat) a := by
  have hn := nN_bound hg
  have hb := node0_bound hg
  have hd := dqs_bound hg
  induction j with
  | zero =>
    have h0 := node_place (c := c) (v := nN c) (j := 0) (by omega) (by omega) (by omega) (by have := room_bound c (nN c); omega)
    have h1 := node_place (c := c) (v := nN c) (j := 1) (by omega) (by omega) (by omega) (by have := room_bound c (nN c); omega)
    rw [freeTo, mget_other (by omega), mget_other (by omega)]
  | succ j ih =>
    have h3 := node_place (c := c) (v := nN c - 1 - j) (j := 3) (by omega) (by omega) (by omega) (by have := room_bound c (nN c - 1 - j); omega)
    have hh := head_place hg (v := nN c - 1 - j) (by omega) (by omega)
    simp only [freeTo]
    rw [mget_other (by omega), mget_other (by omega), ih (by omega)]

theorem linked_up {c : Cfg} {mem : List Int} (hl : ∀ p, 1 ≤ p → p ≤ manyI c → loI (mget mem (lnk c p)) = if p < manyI c then p + 1 else 0) (n : Nat) (place p : Int) (hp : 1 ≤ p) (hn : p + n = manyI c + 1) (h0 : loI (mget mem place) = if n = 0 then 0 else p) : Linked (lnk c) mem place (upL p n) := by
  induction n generalizing place p with
  | zero => exact h0
  | succ n ih =>
    refine ⟨h0, ih (lnk c p) (p + 1) (by omega) (by omega) ?_⟩
    rw [hl p hp (by omega)]
    by_cases e : n = 0
    · rw [if_pos e, if_neg (by omega)]
    · rw [if_neg e, if_pos (by omega)]

theorem seqFirst {c : Cfg} (hg : Good c) : Inv c (firstL c) [] (upL 1 (manyI c).toNat) := by
  have hmb := manyI_bound hg
  have hA := allI_bound hg
  have hn := nN_bound hg
  have hb := node0_bound hg
  have hd := dqs_bound hg
  obtain ⟨k4, k5, kl⟩ := linkTo_get hg (manyI c - 1).toNat (by omega)
  have fg := fun a ha => freeTo_get hg (nN c - 1) (by omega) a ha
  refine ⟨by have : (firstL c).length = (allI c).toNat := freeTo_len c _; rw [this]; omega, ?_, ?_, ?_, ?_⟩
  · show loI (mget (firstL c) 4) = 0
    unfold firstL
    rw [fg 4 (.inl (by omega)), k4]; rfl
  · refine linked_up (fun p h1 h2 => ?_) _ 5 1 (by omega) (by omega) ?_
    · have hpl := pack_place hg h1 h2 (j := 1) (by omega) (by omega)
      have hpk : pksI c ≤ lnk c p := by have := hpl.2.2.2; show pksI c ≤ pPack c p 1; omega
      unfold firstL
      rw [fg (lnk c p) (.inr ⟨hpk, hpl.2.1⟩), kl p h1 h2]
      by_cases e : p < manyI c
      · rw [if_pos e, if_pos (by omega)]; unfold loI; omega
      · rw [if_neg e, if_neg (by omega)]; rfl
    · unfold firstL
      rw [fg 5 (.inl (by omega)), k5, if_neg (by omega)]; rfl
  · intro p hp
    have := upL_mem p (by simpa using hp); omega
  · simpa using upL_nodup 1 _

end Go.Proofs.Ytchlbdfapgeebaa
