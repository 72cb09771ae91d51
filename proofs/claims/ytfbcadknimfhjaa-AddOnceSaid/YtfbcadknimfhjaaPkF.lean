/- Packets that are put, taken and put back one at a time: plain numbers. No program. Packets that are put, taken and put back one at a time: what comes of each. No program. What is in the pool: plain numbers. No program. Chapter 11's example: what it comes to, as plain numbers. No program. How many steps a packet that is put takes: plain numbers. No program. -/
import Derived.Test.YtfbcadknimfhjaaPkE
namespace Go.Proofs.Ytfbcadknimfhjaa
open Go.RowKit

theorem mget_put {mem : List Int} {a x : Int} (ha : 0 ≤ a ∧ a < mem.length) : mget (mput mem a x) a = x := by
  unfold mget
  rw [mput_len, if_pos ha]
  unfold mput
  rw [if_pos ha, List.getElem?_set_self (by omega)]
  rfl

theorem mget_other {mem : List Int} {a b x : Int} (h : b ≠ a) : mget (mput mem a x) b = mget mem b := by
  unfold mget
  rw [mput_len]
  split
  · next hb =>
    unfold mput
    split
    · next ha => rw [List.getElem?_set_ne (by omega)]
    · rfl
  · rfl

theorem mhit_self {mem : List Int} {a : Int} (ha : 0 ≤ a ∧ a < mem.length) : mhit mem a (mget mem a) = true := by
  unfold mhit; rw [decide_eq_true ha, decide_eq_true rfl]; rfl

theorem loI_turn {w low : Int} (h0 : 0 ≤ low) (h1 : low < 4294967296) : loI (turnI w low) = low := by
  unfold loI turnI; omega

theorem pmRun_add (c : Cfg) (a b : Nat) (x : List Int × PM) : pmRun c (a + b) x = pmRun c b (pmRun c a x) := by
  induction b with
  | zero => rfl
  | succ b ih =>
    rw [← Nat.add_assoc, pmRun, pmRun, ih]

theorem pmRun_stay {c : Cfg} {a : Nat} {x : List Int × PM} (h : (pmRun c a x).2.pc = .done) (b : Nat) : pmRun c (a + b) x = pmRun c a x := by
  induction b with
  | zero => rfl
  | succ b ih => rw [← Nat.add_assoc, pmRun, ih, pmStep_done h]

theorem pmRun_upto {c : Cfg} {a m : Nat} {x y : List Int × PM} (h : pmRun c a x = y) (hd : y.2.pc = .done) (hm : a ≤ m) : pmRun c m x = y := by
  obtain ⟨b, rfl⟩ := Nat.exists_eq_add_of_le hm
  rw [pmRun_stay (by rw [h]; exact hd), h]

/-- Each thing's link is the next one's number. -/
def Linked (lf : Int → Int) (mem : List Int) : Int → List Int → Prop
  | place, [] => loI (mget mem place) = 0
  | place, p :: L => loI (mget mem place) = p ∧ Linked lf mem (lf p) L

theorem Linked.put {lf : Int → Int} {mem : List Int} {a x : Int} {L : List Int} {place : Int} (h : Linked lf mem place L) (h1 : place ≠ a) (h2 : ∀ p ∈ L, lf p ≠ a) : Linked lf (mput mem a x) place L := by
  induction L generalizing place with
  | nil => show loI (mget (mput mem a x) place) = 0; rw [mget_other h1]; exact h
  | cons p L ih =>
    refine ⟨?_, ih h.2 (h2 p (by simp)) (fun q hq => h2 q (by simp [hq]))⟩
    rw [mget_other h1]; exact h.1

theorem Linked.head {lf : Int → Int} {mem mem' : List Int} {place place' : Int} {L : List Int} (h : Linked lf mem place L) (e : loI (mget mem' place') = loI (mget mem place)) (hl : ∀ p ∈ L, loI (mget mem' (lf p)) = loI (mget mem (lf p))) : Linked lf mem' place' L := by
  induction L generalizing place place' with
  | nil => show loI (mget mem' place') = 0; rw [e]; exact h
  | cons p L ih =>
    refine ⟨by rw [e]; exact h.1, ih h.2 (hl p (by simp)) (fun q hq => hl q (by simp [hq]))⟩

/-- The stacks: the pool's packets, the spare ones. -/
structure Inv (c : Cfg) (mem : List Int) (P S : List Int) : Prop where
  len : (mem.length : Int) = allI c
  pool : Linked (lnk c) mem 4 P
  spare : Linked (lnk c) mem 5 S
  rng : ∀ p ∈ P ++ S, 1 ≤ p ∧ p ≤ manyI c
  nd : (P ++ S).Nodup

/-- A packet has these tasks. -/
def Content (c : Cfg) (mem : List Int) (p : Int) (ts : List Int) : Prop := mget mem (pPack c p 0) = ts.length ∧ ∀ j, j < ts.length → mget mem (pTask c p j) = ts[j]?.getD 0

theorem pack_is {c : Cfg} (hg : Good c) {p j : Int} (h1 : 1 ≤ p) (h2 : p ≤ manyI c) (h3 : 0 ≤ j) (h4 : j ≤ 5) : pPack c p j = pksI c + (p - 1) * 6 + j ∧ 16 ≤ pPack c p j ∧ pPack c p j < allI c := by
  obtain ⟨a, b, d, e⟩ := pack_place hg h1 h2 h3 h4
  exact ⟨e, a, by omega⟩

theorem task_is {c : Cfg} {p : Int} {j : Nat} (h : j < 4) : pTask c p j = pPack c p (2 + j) := if_pos ⟨by omega, by omega⟩

theorem pack_ne {c : Cfg} (hg : Good c) {p j q k : Int} (h1 : 1 ≤ p) (h2 : p ≤ manyI c) (h3 : 0 ≤ j) (h4 : j ≤ 5) (g1 : 1 ≤ q) (g2 : q ≤ manyI c) (g3 : 0 ≤ k) (g4 : k ≤ 5) (hn : p ≠ q ∨ j ≠ k) : pPack c p j ≠ pPack c q k := by
  have := (pack_is hg h1 h2 h3 h4).1
  have := (pack_is hg g1 g2 g3 g4).1
  omega

theorem Content.frame {c : Cfg} {mem mem' : List Int} {p : Int} {ts : List Int} (h : Content c mem p ts) (hl : ts.length ≤ 4) (hf : ∀ j, 0 ≤ j → j ≤ 5 → j ≠ 1 → mget mem' (pPack c p j) = mget mem (pPack c p j)) : Content c mem' p ts := by
  refine ⟨by rw [hf 0 (by omega) (by omega) (by omega)]; exact h.1, fun j hj => ?_⟩
  rw [task_is (by omega), hf (2 + j) (by omega) (by omega) (by omega), ← task_is (by omega)]
  exact h.2 j hj

section steps
variable {c : Cfg} {mem : List Int} {t : List Int} {j : Nat} {p hd i h l : Int}

theorem st_popHead (hz : loI (mget mem hd) ≠ 0) : pmStep c mem ⟨.last, t, j, p, ⟨.popHead, hd, i, h, l⟩⟩ = (mem, ⟨.last, t, j, p, ⟨.popLink, hd, loI (mget mem hd), mget mem hd, l⟩⟩) := by
  simp [pmStep, pmLast, smStep, hz, SPc.fin]
theorem st_popHead0 (hz : loI (mget mem hd) = 0) : pmStep c mem ⟨.last, t, j, p, ⟨.popHead, hd, i, h, l⟩⟩ = (mem, ⟨.done, t, j, 0, ⟨.done, hd, 0, mget mem hd, l⟩⟩) := by
  simp [pmStep, pmLast, smStep, hz, SPc.fin]
theorem st_popLink : pmStep c mem ⟨.last, t, j, p, ⟨.popLink, hd, i, h, l⟩⟩ = (mem, ⟨.last, t, j, p, ⟨.popSwap, hd, i, h, loI (mget mem (lnk c i))⟩⟩) := by
  simp [pmStep, pmLast, smStep, SPc.fin]
theorem st_popSwap (hh : mhit mem hd h = true) : pmStep c mem ⟨.last, t, j, p, ⟨.popSwap, hd, i, h, l⟩⟩ = (mput mem hd (turnI h l), ⟨.done, t, j, i, ⟨.done, hd, i, h, l⟩⟩) := by
  simp [pmStep, pmLast, smStep, hh, SPc.fin]
theorem st_pushHead : pmStep c mem ⟨.last, t, j, p, ⟨.pushHead, hd, i, h, l⟩⟩ = (mem, ⟨.last, t, j, p, ⟨.pushLink, hd, i, mget mem hd, loI (mget mem hd)⟩⟩) := by
  simp [pmStep, pmLast, smStep, SPc.fin]
theorem st_pushLink : pmStep c mem ⟨.last, t, j, p, ⟨.pushLink, hd, i, h, l⟩⟩ = (mput mem (lnk c i) l, ⟨.last, t, j, p, ⟨.pushSwap, hd, i, h, l⟩⟩) := by
  simp [pmStep, pmLast, smStep, SPc.fin]
theorem st_pushSwap (hh : mhit mem hd h = true) : pmStep c mem ⟨.last, t, j, p, ⟨.pushSwap, hd, i, h, l⟩⟩ = (mput mem hd (turnI h i), ⟨.done, t, j, i, ⟨.done, hd, i, h, l⟩⟩) := by
  simp [pmStep, pmLast, smStep, hh, SPc.fin]
theorem sp_popHead (hz : loI (mget mem hd) ≠ 0) : pmStep c mem ⟨.spare, t, j, p, ⟨.popHead, hd, i, h, l⟩⟩ = (mem, ⟨.spare, t, j, p, ⟨.popLink, hd, loI (mget mem hd), mget mem hd, l⟩⟩) := by
  simp [pmStep, pmSpare, smStep, hz, SPc.fin]
theorem sp_popLink : pmStep c mem ⟨.spare, t, j, p, ⟨.popLink, hd, i, h, l⟩⟩ = (mem, ⟨.spare, t, j, p, ⟨.popSwap, hd, i, h, loI (mget mem (lnk c i))⟩⟩) := by
  simp [pmStep, pmSpare, smStep, SPc.fin]
theorem sp_popSwap (hh : mhit mem hd h = true) (hi : i ≠ 0) : pmStep c mem ⟨.spare, t, j, p, ⟨.popSwap, hd, i, h, l⟩⟩ = (mput mem hd (turnI h l), ⟨.fill, t, j, i, ⟨.done, hd, i, h, l⟩⟩) := by
  simp [pmStep, pmSpare, smStep, hh, SPc.fin, hi]
theorem st_fill (x : SM) : pmStep c mem ⟨.fill, t, j, p, x⟩ = (mput mem (pTask c p j) (t[j]?.getD 0), ⟨if j + 1 = t.length then .many else .fill, t, j + 1, p, x⟩) := by
  simp [pmStep, pmFill]
theorem st_many (x : SM) : pmStep c mem ⟨.many, t, j, p, x⟩ = (mput mem (pPack c p 0) t.length, ⟨.last, t, j, p, ⟨.pushHead, 4, p, 0, 0⟩⟩) := by
  simp [pmStep, pmMany]
end steps

/-- Three steps that take the first thing of a stack. -/
theorem run_pop {c : Cfg} {mem : List Int} {t : List Int} {hd i h l p0 : Int} {j : Nat} (hh : 0 ≤ hd ∧ hd < mem.length) (hz : loI (mget mem hd) ≠ 0) :
    pmRun c 3 (mem, ⟨.last, t, j, p0, ⟨.popHead, hd, i, h, l⟩⟩) = (mput mem hd (turnI (mget mem hd) (loI (mget mem (lnk c (loI (mget mem hd)))))), ⟨.done, t, j, loI (mget mem hd), ⟨.done, hd, loI (mget mem hd), mget mem hd, loI (mget mem (lnk c (loI (mget mem hd))))⟩⟩) := by
  simp only [pmRun]
  rw [st_popHead hz]
  simp only []
  rw [st_popLink]
  simp only []
  rw [st_popSwap (mhit_self hh)]

/-- Three steps that push. -/
theorem run_push {c : Cfg} {mem : List Int} {t : List Int} {hd i h l p0 : Int} {j : Nat} (hh : 0 ≤ hd ∧ hd < mem.length) (hne : hd ≠ lnk c i) :
    pmRun c 3 (mem, ⟨.last, t, j, p0, ⟨.pushHead, hd, i, h, l⟩⟩) = (mput (mput mem (lnk c i) (loI (mget mem hd))) hd (turnI (mget mem hd) i), ⟨.done, t, j, i, ⟨.done, hd, i, mget mem hd, loI (mget mem hd)⟩⟩) := by
  simp only [pmRun]
  rw [st_pushHead]
  simp only []
  rw [st_pushLink]
  simp only []
  rw [st_pushSwap]
  have := mhit_self (mem := mput mem (lnk c i) (loI (mget mem hd))) (a := hd) (by rw [mput_len]; exact hh)
  rwa [mget_other hne] at this

/-- Memory with k tasks in a packet. -/
def fillTo (c : Cfg) (p : Int) (t : List Int) (mem : List Int) : Nat → List Int
  | 0 => mem
  | k + 1 => mput (fillTo c p t mem k) (pTask c p k) (t[k]?.getD 0)

theorem run_fill {c : Cfg} {mem : List Int} {t : List Int} {p : Int} {x : SM} (k : Nat) (hk : k < t.length) : pmRun c k (mem, ⟨.fill, t, 0, p, x⟩) = (fillTo c p t mem k, ⟨.fill, t, k, p, x⟩) := by
  induction k with
  | zero => rfl
  | succ k ih =>
    rw [pmRun, ih (by omega)]
    simp only []
    rw [st_fill, if_neg (by omega)]
    rfl

theorem run_fillAll {c : Cfg} {mem : List Int} {t : List Int} {p : Int} {x : SM} (ht : 0 < t.length) : pmRun c t.length (mem, ⟨.fill, t, 0, p, x⟩) = (fillTo c p t mem t.length, ⟨.many, t, t.length, p, x⟩) := by
  obtain ⟨k, hk⟩ : ∃ k, t.length = k + 1 := ⟨t.length - 1, by omega⟩
  rw [hk, pmRun, run_fill k (by omega)]
  simp only []
  rw [st_fill, if_pos (by omega)]
  rfl

theorem fillTo_len (c : Cfg) (p : Int) (t : List Int) (mem : List Int) (k : Nat) : (fillTo c p t mem k).length = mem.length := by
  induction k with
  | zero => rfl
  | succ k ih => rw [fillTo, mput_len, ih]

theorem fillTo_other {c : Cfg} {p : Int} {t : List Int} {mem : List Int} {b : Int} (k : Nat) (h : ∀ j : Nat, j < k → b ≠ pTask c p j) : mget (fillTo c p t mem k) b = mget mem b := by
  induction k with
  | zero => rfl
  | succ k ih => rw [fillTo, mget_other (h k (by omega)), ih (fun j hj => h j (by omega))]

theorem fillTo_task {c : Cfg} (hg : Good c) {p : Int} {t : List Int} {mem : List Int} (h1 : 1 ≤ p) (h2 : p ≤ manyI c) (hl : (mem.length : Int) = allI c) (k : Nat) (hk : k ≤ 4) (j : Nat) (hj : j < k) : mget (fillTo c p t mem k) (pTask c p j) = t[j]?.getD 0 := by
  induction k with
  | zero => omega
  | succ k ih =>
    rw [fillTo]
    by_cases e : j = k
    · subst e
      have := pack_is hg h1 h2 (j := 2 + j) (by omega) (by omega)
      rw [mget_put]
      rw [fillTo_len, task_is (by omega)]; omega
    · rw [mget_other, ih (by omega) (by omega)]
      rw [task_is (by omega), task_is (by omega)]
      exact pack_ne hg h1 h2 (by omega) (by omega) h1 h2 (by omega) (by omega) (.inr (by omega))

end Go.Proofs.Ytfbcadknimfhjaa

namespace Go.Proofs.Ytfbcadknimfhjaa
open Go.RowKit

abbrev putM (t : List Int) : PM := ⟨.spare, t, 0, 0, ⟨.popHead, 5, 0, 0, 0⟩⟩
abbrev takeM : PM := ⟨.last, [], 0, 0, ⟨.popHead, 4, 0, 0, 0⟩⟩
abbrev backM (p : Int) : PM := ⟨.last, [], 0, 0, ⟨.pushHead, 5, p, 0, 0⟩⟩

theorem lnk_big {c : Cfg} (hg : Good c) {p : Int} (h : 1 ≤ p ∧ p ≤ manyI c) : 16 ≤ lnk c p ∧ lnk c p < allI c := (pack_is hg h.1 h.2 (by omega) (by omega)).2

theorem Inv.mono {c : Cfg} {mem : List Int} {P S P' S' : List Int} (hi : Inv c mem P S) (mem' : List Int) (hl : mem'.length = mem.length) (h1 : Linked (lnk c) mem' 4 P') (h2 : Linked (lnk c) mem' 5 S') (h3 : (P' ++ S').Sublist (P ++ S)) : Inv c mem' P' S' :=
  ⟨by rw [hl]; exact hi.len, h1, h2, fun p hp => hi.rng p (h3.subset hp), hi.nd.sublist h3⟩

theorem seqTakeF {c : Cfg} {mem : List Int} {p : Int} {P S : List Int} (hg : Good c) (hi : Inv c mem (p :: P) S) :
    ∃ mem' x, pmRun c 3 (mem, takeM) = (mem', ⟨.done, [], 0, p, x⟩) ∧ Inv c mem' P S ∧ ∀ a, a ≠ 4 → mget mem' a = mget mem a := by
  have hp := hi.rng p (by simp)
  have hA := allI_bound hg
  have hlen := hi.len
  have h4 : (0 : Int) ≤ 4 ∧ (4 : Int) < mem.length := by omega
  have e0 : loI (mget mem 4) = p := hi.pool.1
  have e := run_pop (c := c) (t := []) (hd := 4) (i := 0) (h := 0) (l := 0) (p0 := 0) (j := 0) h4 (by rw [e0]; omega)
  rw [e0] at e
  have hr := loI_range (mget mem (lnk c p))
  refine ⟨_, _, e, ?_, ?_⟩
  · refine hi.mono _ (mput_len _ _ _) ?_ ?_ (by simp)
    · refine Linked.head hi.pool.2 ?_ (fun q hq => ?_)
      · rw [mget_put h4, loI_turn hr.1 hr.2]
      · have := lnk_big hg (hi.rng q (by simp [hq]))
        rw [mget_other (by omega)]
    · refine hi.spare.put (by omega) (fun q hq => ?_)
      have := lnk_big hg (hi.rng q (by simp [hq]))
      omega
  · intro a ha
    rw [mget_other ha]

theorem seqTake {c : Cfg} {mem : List Int} {p : Int} {P S : List Int} (hg : Good c) (hi : Inv c mem (p :: P) S) :
    ∃ mem' x, pmRun c 14 (mem, takeM) = (mem', ⟨.done, [], 0, p, x⟩) ∧ Inv c mem' P S ∧ ∀ q j, 1 ≤ q → q ≤ manyI c → 0 ≤ j → j ≤ 5 → mget mem' (pPack c q j) = mget mem (pPack c q j) := by
  obtain ⟨mem', x, e, hi', hf⟩ := seqTakeF hg hi
  refine ⟨mem', x, pmRun_upto e rfl (by omega), hi', fun q j h1 h2 h3 h4 => hf _ ?_⟩
  have := (pack_is hg h1 h2 h3 h4).2
  omega

theorem seqTake0 {c : Cfg} {mem : List Int} {S : List Int} (hi : Inv c mem [] S) : ∃ x, pmRun c 14 (mem, takeM) = (mem, ⟨.done, [], 0, 0, x⟩) := by
  have e : pmRun c 1 (mem, takeM) = (mem, ⟨.done, [], 0, 0, _⟩) := st_popHead0 (show loI (mget mem 4) = 0 from hi.pool)
  exact ⟨_, pmRun_upto e rfl (by omega)⟩

theorem seqBackF {c : Cfg} {mem : List Int} {p : Int} {P S : List Int} (hg : Good c) (hi : Inv c mem P S) (hp : 1 ≤ p ∧ p ≤ manyI c) (hn : p ∉ P ++ S) :
    ∃ mem' x, pmRun c 3 (mem, backM p) = (mem', ⟨.done, [], 0, p, x⟩) ∧ Inv c mem' P (p :: S) ∧ ∀ a, a ≠ 5 → a ≠ lnk c p → mget mem' a = mget mem a := by
  have hA := allI_bound hg
  have hmb := manyI_bound hg
  have hlen := hi.len
  have hlp := lnk_big hg hp
  have h5 : (0 : Int) ≤ 5 ∧ (5 : Int) < mem.length := by omega
  have e := run_push (c := c) (t := []) (hd := 5) (i := p) (h := 0) (l := 0) (p0 := 0) (j := 0) h5 (by omega)
  have hr := loI_range (mget mem 5)
  have hne : ∀ q ∈ P ++ S, lnk c q ≠ lnk c p := fun q hq => pack_ne hg (hi.rng q hq).1 (hi.rng q hq).2 (by omega) (by omega) hp.1 hp.2 (by omega) (by omega) (.inl (fun e => hn (e ▸ hq)))
  have hbig : ∀ q ∈ P ++ S, 16 ≤ lnk c q := fun q hq => (lnk_big hg (hi.rng q hq)).1
  refine ⟨_, _, e, ⟨by rw [mput_len, mput_len]; exact hlen, ?_, ?_, ?_, ?_⟩, ?_⟩
  · refine (hi.pool.put (by omega) (fun q hq => hne q (by simp [hq]))).put (by omega) (fun q hq => ?_)
    have := hbig q (by simp [hq]); omega
  · refine ⟨?_, Linked.head hi.spare ?_ (fun q hq => ?_)⟩
    · rw [mget_put (by rw [mput_len]; exact h5), loI_turn (by omega) (by omega)]
    · rw [mget_other (by omega), mget_put (by omega)]
      unfold loI; omega
    · have := hbig q (by simp [hq])
      rw [mget_other (by omega), mget_other (hne q (by simp [hq]))]
  · intro q hq
    rcases List.mem_append.1 hq with h | h
    · exact hi.rng q (by simp [h])
    · rcases List.mem_cons.1 h with rfl | h
      · exact hp
      · exact hi.rng q (by simp [h])
  · have h1 : List.Perm (P ++ p :: S) (p :: (P ++ S)) := List.perm_middle
    rw [h1.nodup_iff, List.nodup_cons]
    exact ⟨hn, hi.nd⟩
  · intro a h1 h2
    rw [mget_other h1, mget_other h2]

theorem seqBack {c : Cfg} {mem : List Int} {p : Int} {P S : List Int} (hg : Good c) (hi : Inv c mem P S) (hp : 1 ≤ p ∧ p ≤ manyI c) (hn : p ∉ P ++ S) :
    ∃ mem' x, pmRun c 14 (mem, backM p) = (mem', ⟨.done, [], 0, p, x⟩) ∧ Inv c mem' P (p :: S) ∧ ∀ q j, 1 ≤ q → q ≤ manyI c → 0 ≤ j → j ≤ 5 → j ≠ 1 → mget mem' (pPack c q j) = mget mem (pPack c q j) := by
  obtain ⟨mem', x, e, hi', hf⟩ := seqBackF hg hi hp hn
  refine ⟨mem', x, pmRun_upto e rfl (by omega), hi', fun q j h1 h2 h3 h4 h6 => hf _ ?_ ?_⟩
  · have := (pack_is hg h1 h2 h3 h4).2
    omega
  · exact pack_ne hg h1 h2 h3 h4 hp.1 hp.2 (by omega) (by omega) (.inr h6)

/-- Three steps that take a spare packet. -/
theorem run_spare {c : Cfg} {mem : List Int} {t : List Int} {hd i h l p0 : Int} {j : Nat} (hh : 0 ≤ hd ∧ hd < mem.length) (hz : loI (mget mem hd) ≠ 0) :
    pmRun c 3 (mem, ⟨.spare, t, j, p0, ⟨.popHead, hd, i, h, l⟩⟩) = (mput mem hd (turnI (mget mem hd) (loI (mget mem (lnk c (loI (mget mem hd)))))), ⟨.fill, t, j, loI (mget mem hd), ⟨.done, hd, loI (mget mem hd), mget mem hd, loI (mget mem (lnk c (loI (mget mem hd))))⟩⟩) := by
  simp only [pmRun]
  rw [sp_popHead hz]
  simp only []
  rw [sp_popLink]
  simp only []
  rw [sp_popSwap (mhit_self hh) hz]

theorem seqPutF {c : Cfg} {mem : List Int} {p : Int} {P S t : List Int} (hg : Good c) (hi : Inv c mem P (p :: S)) (ht : 0 < t.length) (ht4 : t.length ≤ 4) :
    ∃ mem' j x, pmRun c (7 + t.length) (mem, putM t) = (mem', ⟨.done, t, j, p, x⟩) ∧ Inv c mem' (p :: P) S ∧ Content c mem' p t ∧ ∀ a, a ≠ 4 → a ≠ 5 → (∀ j, 0 ≤ j → j ≤ 5 → a ≠ pPack c p j) → mget mem' a = mget mem a := by
  have hp := hi.rng p (by simp)
  have hA := allI_bound hg
  have hmb := manyI_bound hg
  have hlen := hi.len
  have hlp := lnk_big hg hp
  have h5 : (0 : Int) ≤ 5 ∧ (5 : Int) < mem.length := by omega
  have e0 : loI (mget mem 5) = p := hi.spare.1
  have e1 := run_spare (c := c) (t := t) (hd := 5) (i := 0) (h := 0) (l := 0) (p0 := 0) (j := 0) h5 (by rw [e0]; omega)
  rw [e0] at e1
  have hr := loI_range (mget mem (lnk c p))
  have hnd := hi.nd
  have hperm : List.Perm (P ++ p :: S) (p :: (P ++ S)) := List.perm_middle
  rw [hperm.nodup_iff, List.nodup_cons] at hnd
  obtain ⟨hn, hnd⟩ := hnd
  have hrng : ∀ q ∈ P ++ S, 1 ≤ q ∧ q ≤ manyI c := fun q hq => hi.rng q (by
    rcases List.mem_append.1 hq with h | h
    · simp [h]
    · simp [h])
  have hne : ∀ q ∈ P ++ S, q ≠ p := fun q hq e => hn (e ▸ hq)
  have hbig : ∀ q ∈ P ++ S, 16 ≤ lnk c q := fun q hq => (lnk_big hg (hrng q hq)).1
  -- the memory behind the pop
  generalize hm1 : mput mem 5 (turnI (mget mem 5) (loI (mget mem (lnk c p)))) = m1 at e1
  have l1 : m1.length = mem.length := by rw [← hm1, mput_len]
  have f1 : ∀ a, a ≠ 5 → mget m1 a = mget mem a := fun a ha => by rw [← hm1, mget_other ha]
  have g1 : loI (mget m1 5) = loI (mget mem (lnk c p)) := by rw [← hm1, mget_put h5, loI_turn hr.1 hr.2]
  -- the tasks
  have e2 := run_fillAll (c := c) (mem := m1) (t := t) (p := p) (x := ⟨.done, 5, p, mget mem 5, loI (mget mem (lnk c p))⟩) ht
  generalize hm2 : fillTo c p t m1 t.length = m2 at e2
  have l2 : m2.length = mem.length := by rw [← hm2, fillTo_len, l1]
  have f2 : ∀ a, (∀ j : Nat, j < t.length → a ≠ pTask c p j) → mget m2 a = mget m1 a := fun a ha => by rw [← hm2]; exact fillTo_other _ ha
  have g2 : ∀ j, j < t.length → mget m2 (pTask c p j) = t[j]?.getD 0 := fun j hj => by
    rw [← hm2]; exact fillTo_task hg hp.1 hp.2 (by rw [l1]; exact hlen) _ ht4 j hj
  have e3 : pmRun c 1 (m2, ⟨.many, t, t.length, p, ⟨.done, 5, p, mget mem 5, loI (mget mem (lnk c p))⟩⟩) = (mput m2 (pPack c p 0) t.length, ⟨.last, t, t.length, p, ⟨.pushHead, 4, p, 0, 0⟩⟩) := st_many _
  generalize hm3 : mput m2 (pPack c p 0) t.length = m3 at e3
  have hp0 := pack_is hg hp.1 hp.2 (j := 0) (by omega) (by omega)
  have l3 : m3.length = mem.length := by rw [← hm3, mput_len, l2]
  have f3 : ∀ a, a ≠ pPack c p 0 → mget m3 a = mget m2 a := fun a ha => by rw [← hm3, mget_other ha]
  have g3 : mget m3 (pPack c p 0) = t.length := by rw [← hm3, mget_put (by rw [l2]; omega)]
  have h4 : (0 : Int) ≤ 4 ∧ (4 : Int) < m3.length := by rw [l3]; omega
  have e4 := run_push (c := c) (mem := m3) (t := t) (hd := 4) (i := p) (h := 0) (l := 0) (p0 := p) (j := t.length) h4 (by omega)
  have eAll : pmRun c (3 + t.length + 1 + 3) (mem, putM t) = (mput (mput m3 (lnk c p) (loI (mget m3 4))) 4 (turnI (mget m3 4) p), ⟨.done, t, t.length, p, ⟨.done, 4, p, mget m3 4, loI (mget m3 4)⟩⟩) := by
    rw [pmRun_add, pmRun_add, pmRun_add, e1, e2, e3, e4]
  have ftask : ∀ (a : Int), a < 16 → ∀ j : Nat, j < t.length → a ≠ pTask c p j := fun a ha j hj => by
    have := (pack_is hg hp.1 hp.2 (j := 2 + j) (by omega) (by omega)).2
    rw [task_is (by omega)]; omega
  have fsm : ∀ a, a < 16 → a ≠ 5 → mget m3 a = mget mem a := fun a ha h => by rw [f3 a (by omega), f2 a (ftask a ha), f1 a h]
  have fq : ∀ q k, 1 ≤ q → q ≤ manyI c → 0 ≤ k → k ≤ 5 → q ≠ p → mget m3 (pPack c q k) = mget mem (pPack c q k) := fun q k k1 k2 k3 k4 k5 => by
    rw [f3 _ (pack_ne hg k1 k2 k3 k4 hp.1 hp.2 (by omega) (by omega) (.inl k5)), f2 _ (fun j hj => by rw [task_is (by omega)]; exact pack_ne hg k1 k2 k3 k4 hp.1 hp.2 (by omega) (by omega) (.inl k5)), f1 _ (by have := (pack_is hg k1 k2 k3 k4).2; omega)]
  have hr4 := loI_range (mget m3 4)
  rw [show 3 + t.length + 1 + 3 = 7 + t.length from by omega] at eAll
  refine ⟨_, _, _, eAll, ⟨by rw [mput_len, mput_len, l3]; exact hlen, ?_, ?_, ?_, ?_⟩, ⟨?_, ?_⟩, ?_⟩
  · refine ⟨by rw [mget_put (by rw [mput_len]; exact h4), loI_turn (by omega) (by omega)], ?_⟩
    refine Linked.head hi.pool ?_ (fun q hq => ?_)
    · rw [mget_other (by omega), mget_put (by rw [l3]; omega), fsm 4 (by omega) (by omega)]
      unfold loI; omega
    · have hq' : q ∈ P ++ S := by simp [hq]
      have := hbig q hq'
      rw [mget_other (by omega), mget_other (pack_ne hg (hrng q hq').1 (hrng q hq').2 (by omega) (by omega) hp.1 hp.2 (by omega) (by omega) (.inl (hne q hq'))), fq q 1 (hrng q hq').1 (hrng q hq').2 (by omega) (by omega) (hne q hq')]
  · refine Linked.head hi.spare.2 ?_ (fun q hq => ?_)
    · rw [mget_other (by omega), mget_other (by omega), f3 _ (by omega), f2 _ (ftask 5 (by omega)), g1]
    · have hq' : q ∈ P ++ S := by simp [hq]
      have := hbig q hq'
      rw [mget_other (by omega), mget_other (pack_ne hg (hrng q hq').1 (hrng q hq').2 (by omega) (by omega) hp.1 hp.2 (by omega) (by omega) (.inl (hne q hq'))), fq q 1 (hrng q hq').1 (hrng q hq').2 (by omega) (by omega) (hne q hq')]
  · intro q hq
    rcases List.mem_cons.1 hq with rfl | h
    · exact hp
    · exact hrng q h
  · exact List.nodup_cons.2 ⟨hn, hnd⟩
  · rw [mget_other (by omega), mget_other (pack_ne hg hp.1 hp.2 (by omega) (by omega) hp.1 hp.2 (by omega) (by omega) (.inr (by omega))), g3]
  · intro j hj
    have ht2 := task_is (c := c) (p := p) (j := j) (by omega)
    have := (pack_is hg hp.1 hp.2 (j := 2 + j) (by omega) (by omega)).2
    rw [mget_other (by rw [ht2]; omega), mget_other (by rw [ht2]; exact pack_ne hg hp.1 hp.2 (by omega) (by omega) hp.1 hp.2 (by omega) (by omega) (.inr (by omega))), f3 _ (by rw [ht2]; exact pack_ne hg hp.1 hp.2 (by omega) (by omega) hp.1 hp.2 (by omega) (by omega) (.inr (by omega))), g2 j hj]
  · intro a h1 h2 h3
    rw [mget_other h1, mget_other (h3 1 (by omega) (by omega)), f3 _ (h3 0 (by omega) (by omega)), f2 _ (fun j hj => by rw [task_is (by omega)]; exact h3 (2 + j) (by omega) (by omega)), f1 _ h2]

theorem seqPut {c : Cfg} {mem : List Int} {p : Int} {P S t : List Int} (hg : Good c) (hi : Inv c mem P (p :: S)) (ht : 0 < t.length) (ht4 : t.length ≤ 4) :
    ∃ mem' j x, pmRun c 14 (mem, putM t) = (mem', ⟨.done, t, j, p, x⟩) ∧ Inv c mem' (p :: P) S ∧ Content c mem' p t ∧ ∀ q j, 1 ≤ q → q ≤ manyI c → 0 ≤ j → j ≤ 5 → q ≠ p → mget mem' (pPack c q j) = mget mem (pPack c q j) := by
  obtain ⟨mem', j, x, e, hi', hc, hf⟩ := seqPutF hg hi ht ht4
  have hp := hi.rng p (by simp)
  refine ⟨mem', j, x, pmRun_upto e rfl (by omega), hi', hc, fun q k h1 h2 h3 h4 h5 => hf _ ?_ ?_ (fun i i1 i2 => pack_ne hg h1 h2 h3 h4 hp.1 hp.2 i1 i2 (.inl h5))⟩
  · have := (pack_is hg h1 h2 h3 h4).2
    omega
  · have := (pack_is hg h1 h2 h3 h4).2
    omega

/-- Numbers from p on. -/
def upL (p : Int) : Nat → List Int
  | 0 => []
  | n + 1 => p :: upL (p + 1) n

theorem upL_mem {p : Int} {n : Nat} : ∀ x ∈ upL p n, p ≤ x ∧ x < p + n := by
  induction n generalizing p with
  | zero => intro x hx; cases hx
  | succ n ih =>
    intro x hx
    rcases List.mem_cons.1 hx with rfl | h
    · omega
    · have := ih x h; omega

theorem upL_len (p : Int) (n : Nat) : (upL p n).length = n := by
  induction n generalizing p with
  | zero => rfl
  | succ n ih => rw [upL, List.length_cons, ih]

theorem upL_nodup (p : Int) (n : Nat) : (upL p n).Nodup := by
  induction n generalizing p with
  | zero => exact List.nodup_nil
  | succ n ih =>
    refine List.nodup_cons.2 ⟨fun h => ?_, ih _⟩
    have := upL_mem _ h; omega

theorem linkTo_get {c : Cfg} (hg : Good c) (k : Nat) (hk : (k : Int) < manyI c) : mget (linkTo c k) 4 = 0 ∧ mget (linkTo c k) 5 = 1 ∧ ∀ p, 1 ≤ p → p ≤ manyI c → mget (linkTo c k) (lnk c p) = if p ≤ k then p + 1 else 0 := by
  have hA := allI_bound hg
  induction k with
  | zero =>
    have hl : (linkTo c 0).length = (allI c).toNat := linkTo_len c 0
    have hz : ∀ a : Int, a ≠ 5 → mget (linkTo c 0) a = 0 := fun a ha => by
      unfold mget
      split
      · next h =>
        unfold linkTo
        rw [List.getElem?_set_ne (by omega), List.getElem?_replicate]
        split <;> rfl
      · rfl
    refine ⟨hz 4 (by omega), ?_, fun p h1 h2 => ?_⟩
    · unfold mget
      rw [if_pos (by rw [hl]; omega)]
      unfold linkTo
      rw [show (5 : Int).toNat = 5 from rfl, List.getElem?_set_self (by simp; omega)]
      rfl
    · have := lnk_big hg ⟨h1, h2⟩
      rw [hz _ (by omega), if_neg (by omega)]
  | succ k ih =>
    obtain ⟨i1, i2, i3⟩ := ih (by omega)
    have hb : 16 ≤ pPack c ((k : Int) + 1) 1 ∧ pPack c ((k : Int) + 1) 1 < allI c := lnk_big hg (p := (k : Int) + 1) ⟨by omega, by omega⟩
    have hl := linkTo_len c k
    rw [linkTo]
    refine ⟨by rw [mget_other (by omega)]; exact i1, by rw [mget_other (by omega)]; exact i2, fun p h1 h2 => ?_⟩
    by_cases e : p = k + 1
    · subst e
      rw [mget_put (by rw [hl]; omega), if_pos (by omega)]; omega
    · rw [mget_other (pack_ne hg h1 h2 (by omega) (by omega) (by omega) (by omega) (by omega) (by omega) (.inl e)), i3 p h1 h2]
      by_cases e2 : p ≤ k
      · rw [if_pos e2, if_pos (by omega)]
      · rw [if_neg e2, if_neg (by omega)]

theorem freeTo_get {c : Cfg} (hg : Good c) (j : Nat) (hj : (j : Int) ≤ nN c - 1) (a : Int) (ha : a < 7 ∨ (pksI c ≤ a ∧ a < node0I c)) : mget (freeTo c j) a = mget (linkTo c (manyI c - 1).toNat) a := by
  have hn := nN_bound hg
  have hb := node0_bound hg
  have hd := dqs_bound hg
  induction j with
  | zero =>
    have h0 := node_place (c := c) (v := nN c) (j := 0) (by omega) (by omega) (by omega) (by have := room_bound c (nN c); omega)
    have h1 := node_place (c := c) (v := nN c) (j := 1) (by omega) (by omega) (by omega) (by have := room_bound c (nN c); omega)
    rw [freeTo, mget_other (by omega), mget_other (by omega)]
  | succ j ih =>
    have h3 := node_place (c := c) (v := nN c - 1 - j) (j := 3) (by omega) (by omega) (by omega) (by have := room_bound c (nN c - 1 - j); omega)
    have hh := head_place hg (v := nN c - 1 - j) (by omega) (by omega)
    simp only [freeTo]
    rw [mget_other (by omega), mget_other (by omega), ih (by omega)]

theorem linked_up {c : Cfg} {mem : List Int} (hl : ∀ p, 1 ≤ p → p ≤ manyI c → loI (mget mem (lnk c p)) = if p < manyI c then p + 1 else 0) (n : Nat) (place p : Int) (hp : 1 ≤ p) (hn : p + n = manyI c + 1) (h0 : loI (mget mem place) = if n = 0 then 0 else p) : Linked (lnk c) mem place (upL p n) := by
  induction n generalizing place p with
  | zero => exact h0
  | succ n ih =>
    refine ⟨h0, ih (lnk c p) (p + 1) (by omega) (by omega) ?_⟩
    rw [hl p hp (by omega)]
    by_cases e : n = 0
    · rw [if_pos e, if_neg (by omega)]
    · rw [if_neg e, if_pos (by omega)]

theorem seqFirst {c : Cfg} (hg : Good c) : Inv c (firstL c) [] (upL 1 (manyI c).toNat) := by
  have hmb := manyI_bound hg
  have hA := allI_bound hg
  have hn := nN_bound hg
  have hb := node0_bound hg
  have hd := dqs_bound hg
  obtain ⟨k4, k5, kl⟩ := linkTo_get hg (manyI c - 1).toNat (by omega)
  have fg := fun a ha => freeTo_get hg (nN c - 1) (by omega) a ha
  refine ⟨by have : (firstL c).length = (allI c).toNat := freeTo_len c _; rw [this]; omega, ?_, ?_, ?_, ?_⟩
  · show loI (mget (firstL c) 4) = 0
    unfold firstL
    rw [fg 4 (.inl (by omega)), k4]; rfl
  · refine linked_up (fun p h1 h2 => ?_) _ 5 1 (by omega) (by omega) ?_
    · have hpl := pack_place hg h1 h2 (j := 1) (by omega) (by omega)
      have hpk : pksI c ≤ lnk c p := by have := hpl.2.2.2; show pksI c ≤ pPack c p 1; omega
      unfold firstL
      rw [fg (lnk c p) (.inr ⟨hpk, hpl.2.1⟩), kl p h1 h2]
      by_cases e : p < manyI c
      · rw [if_pos e, if_pos (by omega)]; unfold loI; omega
      · rw [if_neg e, if_neg (by omega)]; rfl
    · unfold firstL
      rw [fg 5 (.inl (by omega)), k5, if_neg (by omega)]; rfl
  · intro p hp
    have := upL_mem p (by simpa using hp); omega
  · simpa using upL_nodup 1 _

end Go.Proofs.Ytfbcadknimfhjaa

namespace Go.Proofs.Ytfbcadknimfhjaa
open Go.RowKit

theorem walk_linked {lf : Int → Int} {mem : List Int} (L : List Int) (place : Int) (k : Nat) (h : Linked lf mem place L) (hk : L.length ≤ k) (hp : 0 ≤ place ∧ place < mem.length) (hl : ∀ p ∈ L, p ≠ 0 ∧ 0 ≤ lf p ∧ lf p < mem.length) : walkL lf mem k place = L := by
  induction L generalizing place k with
  | nil =>
    cases k with
    | zero => rfl
    | succ k => rw [walkL, if_neg (by rw [show loI (mget mem place) = 0 from h]; simp)]
  | cons p L ih =>
    cases k with
    | zero => simp at hk
    | succ k =>
      have hq := hl p (by simp)
      rw [walkL, h.1, if_pos ⟨hp.1, hp.2, hq.1⟩, ih (lf p) k h.2 (by simp at hk; omega) hq.2 (fun r hr => hl r (by simp [hr]))]

theorem Inv.walk {c : Cfg} {mem P S : List Int} (hg : Good c) (hi : Inv c mem P S) (hl : (P.length : Int) ≤ manyI c) : walkL (lnk c) mem (manyI c).toNat 4 = P := by
  have hA := allI_bound hg
  have hlen := hi.len
  have hmb := manyI_bound hg
  refine walk_linked P 4 _ hi.pool (by omega) (by omega) (fun p hp => ?_)
  have hr := hi.rng p (by simp [hp])
  have hb := lnk_big hg hr
  omega

theorem tasks_content {c : Cfg} {mem : List Int} {p : Int} {ts : List Int} (h : Content c mem p ts) (hl : ts.length ≤ 4) : tasksL c mem p = ts := by
  unfold tasksL
  rw [h.1, show (min (ts.length : Int) 4).toNat = ts.length from by omega]
  apply List.ext_getElem?
  intro j
  by_cases hj : j < ts.length
  · simp [h.2 j hj, hj]
  · simp [List.getElem?_eq_none (show ts.length ≤ j by omega)]
    omega

theorem flatMap_congr' {f g : Int → List Int} {L : List Int} (h : ∀ p ∈ L, f p = g p) : L.flatMap f = L.flatMap g := by
  induction L with
  | nil => rfl
  | cons p L ih => rw [List.flatMap_cons, List.flatMap_cons, h p (by simp), ih (fun q hq => h q (by simp [hq]))]

theorem held_is {c : Cfg} {mem P S : List Int} {f : Int → List Int} (hg : Good c) (hi : Inv c mem P S) (hl : (P.length : Int) ≤ manyI c) (hf : ∀ p ∈ P, Content c mem p (f p) ∧ (f p).length ≤ 4) : heldL c mem = P.flatMap f := by
  unfold heldL
  rw [hi.walk hg hl]
  exact flatMap_congr' (fun p hp => tasks_content (hf p hp).1 (hf p hp).2)

theorem nodup_len {n : Nat} {L : List Int} (hd : L.Nodup) (h : ∀ v ∈ L, 1 ≤ v ∧ v ≤ n) : L.length ≤ n := by
  induction n generalizing L with
  | zero =>
    cases L with
    | nil => simp
    | cons a L => have := h a (by simp); omega
  | succ n ih =>
    by_cases hm : ((n : Int) + 1) ∈ L
    · have h1 := List.length_erase_of_mem hm
      have h2 := ih (hd.erase ((n : Int) + 1)) (fun v hv => by
        have h3 := h v (List.mem_of_mem_erase hv)
        have h4 : v ≠ (n : Int) + 1 := fun e => by
          subst e
          exact (hd.not_mem_erase hv).elim
        omega)
      have : 0 < L.length := List.length_pos_of_mem hm
      omega
    · have := ih hd (fun v hv => by
        have h3 := h v hv
        have h4 : v ≠ (n : Int) + 1 := fun e => hm (e ▸ hv)
        omega)
      omega

end Go.Proofs.Ytfbcadknimfhjaa

namespace Go.Proofs.Ytfbcadknimfhjaa
open Go.RowKit

/-- The example's configuration. -/
def cA : Cfg := ⟨1, 0, 0, 0, 0, 1, 1, 2, 1, 1, 1, 1⟩

theorem cA_good : Good cA := by decide

/-- The machine that puts 7 and 8. -/
def putA : PM := ⟨.spare, [7, 8], 0, 0, ⟨.popHead, 5, 0, 0, 0⟩⟩
/-- The machine that takes. -/
def takeA : PM := ⟨.last, [], 0, 0, ⟨.popHead, 4, 0, 0, 0⟩⟩

def x0A : List Int × PM := (firstL cA, putA)
def y0A : List Int × PM := ((pmRun cA 9 x0A).1, takeA)

theorem aw1 : ∀ k, k < 8 → (pmRun cA (k + 1) x0A).2.pc.fin = false := of_decide_eq_true (by kernel_rfl)
theorem aw2 : (pmRun cA 9 x0A).2.pc = .done ∧ (pmRun cA 9 x0A).2.p = 1 := of_decide_eq_true (by kernel_rfl)
theorem aw3 : heldL cA (pmRun cA 9 x0A).1 = [7, 8] := of_decide_eq_true (by kernel_rfl)
theorem aw4 : ∀ k, k < 2 → (pmRun cA (k + 1) y0A).2.pc.fin = false := of_decide_eq_true (by kernel_rfl)
theorem aw5 : (pmRun cA 3 y0A).2.pc = .done ∧ (pmRun cA 3 y0A).2.p = 1 := of_decide_eq_true (by kernel_rfl)

end Go.Proofs.Ytfbcadknimfhjaa

namespace Go.Proofs.Ytfbcadknimfhjaa
open Go.RowKit

theorem spare_busy {c : Cfg} {mem : List Int} {t : List Int} {hd i h l p0 : Int} {j : Nat} (hz : loI (mget mem hd) ≠ 0) (k : Nat) (hk : k < 3) : (pmRun c k (mem, ⟨.spare, t, j, p0, ⟨.popHead, hd, i, h, l⟩⟩)).2.pc ≠ .done := by
  have e1 : pmRun c 1 (mem, ⟨.spare, t, j, p0, ⟨.popHead, hd, i, h, l⟩⟩) = (mem, ⟨.spare, t, j, p0, ⟨.popLink, hd, loI (mget mem hd), mget mem hd, l⟩⟩) := sp_popHead hz
  have e2 : pmRun c 2 (mem, ⟨.spare, t, j, p0, ⟨.popHead, hd, i, h, l⟩⟩) = (mem, ⟨.spare, t, j, p0, ⟨.popSwap, hd, loI (mget mem hd), mget mem hd, loI (mget mem (lnk c (loI (mget mem hd))))⟩⟩) := by
    rw [pmRun, e1]; exact sp_popLink
  match k, hk with
  | 0, _ => intro e; cases e
  | 1, _ => rw [e1]; intro e; cases e
  | 2, _ => rw [e2]; intro e; cases e

theorem push_busy {c : Cfg} {mem : List Int} {t : List Int} {hd i h l p0 : Int} {j : Nat} (k : Nat) (hk : k < 3) : (pmRun c k (mem, ⟨.last, t, j, p0, ⟨.pushHead, hd, i, h, l⟩⟩)).2.pc ≠ .done := by
  have e1 : pmRun c 1 (mem, ⟨.last, t, j, p0, ⟨.pushHead, hd, i, h, l⟩⟩) = (mem, ⟨.last, t, j, p0, ⟨.pushLink, hd, i, mget mem hd, loI (mget mem hd)⟩⟩) := st_pushHead
  have e2 : pmRun c 2 (mem, ⟨.last, t, j, p0, ⟨.pushHead, hd, i, h, l⟩⟩) = (mput mem (lnk c i) (loI (mget mem hd)), ⟨.last, t, j, p0, ⟨.pushSwap, hd, i, mget mem hd, loI (mget mem hd)⟩⟩) := by
    rw [pmRun, e1]; exact st_pushLink
  match k, hk with
  | 0, _ => intro e; cases e
  | 1, _ => rw [e1]; intro e; cases e
  | 2, _ => rw [e2]; intro e; cases e

/-- A packet of n tasks that is put alone takes 7 + n steps. -/
theorem seqPut_steps {c : Cfg} {mem : List Int} {p : Int} {P S t : List Int} (hg : Good c) (hi : Inv c mem P (p :: S)) (ht : 0 < t.length) : ∀ k, k < 7 + t.length → (pmRun c k (mem, putM t)).2.pc ≠ .done := by
  have hp := hi.rng p (by simp)
  have hA := allI_bound hg
  have hlen := hi.len
  have h5 : (0 : Int) ≤ 5 ∧ (5 : Int) < mem.length := by omega
  have e0 : loI (mget mem 5) = p := hi.spare.1
  have hz : loI (mget mem 5) ≠ 0 := by rw [e0]; omega
  have e1 := run_spare (c := c) (t := t) (hd := 5) (i := 0) (h := 0) (l := 0) (p0 := 0) (j := 0) h5 hz
  generalize mput mem 5 (turnI (mget mem 5) (loI (mget mem (lnk c (loI (mget mem 5)))))) = m1 at e1
  intro k hk
  by_cases k3 : k < 3
  · exact spare_busy hz k k3
  · obtain ⟨k1, rfl⟩ := Nat.exists_eq_add_of_le (show 3 ≤ k by omega)
    rw [pmRun_add, e1]
    by_cases kn : k1 < t.length
    · rw [run_fill k1 kn]; intro e; cases e
    · obtain ⟨k2, rfl⟩ := Nat.exists_eq_add_of_le (show t.length ≤ k1 by omega)
      rw [pmRun_add, run_fillAll ht]
      match k2 with
      | 0 => intro e; cases e
      | k4 + 1 =>
        rw [show k4 + 1 = 1 + k4 from by omega, pmRun_add]
        rw [show ∀ m x, pmRun c 1 (m, (⟨.many, t, t.length, loI (mget mem 5), x⟩ : PM)) = (mput m (pPack c (loI (mget mem 5)) 0) t.length, ⟨.last, t, t.length, loI (mget mem 5), ⟨.pushHead, 4, loI (mget mem 5), 0, 0⟩⟩) from fun m x => st_many x]
        exact push_busy k4 (by omega)

end Go.Proofs.Ytfbcadknimfhjaa
