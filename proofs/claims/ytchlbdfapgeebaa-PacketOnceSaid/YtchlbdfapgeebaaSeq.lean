/- Packets that are put, taken and put back one at a time: plain numbers. No program. -/
import Derived.Test.YtchlbdfapgeebaaPackR
namespace Go.Proofs.Ytchlbdfapgeebaa
open Go.RowKit

theorem mget_put {mem : List Int} {a x : Int} (ha : 0 ≤ a ∧ a < mem.length) : mget (mput mem a x) a = x := by
  unfold mget
  rw [mput_len, if_pos ha]
  unfold mput
  rw [if_pos ha, List.getElem?_set_self (by omega)]
  rfl

theorem mget_other {mem : List Int} {a b x : Int} (h : b ≠ a) : mget (mput mem a x) b = mget mem b := by
  unfold mget
  rw [mput_len]
  split
  · next hb =>
    unfold mput
    split
    · next ha => rw [List.getElem?_set_ne (by omega)]
    · rfl
  · rfl

theorem mhit_self {mem : List Int} {a : Int} (ha : 0 ≤ a ∧ a < mem.length) : mhit mem a (mget mem a) = true := by
  unfold mhit; rw [decide_eq_true ha, decide_eq_true rfl]; rfl

theorem loI_turn {w low : Int} (h0 : 0 ≤ low) (h1 : low < 4294967296) : loI (turnI w low) = low := by
  unfold loI turnI; omega

theorem pmRun_add (c : Cfg) (a b : Nat) (x : List Int × PM) : pmRun c (a + b) x = pmRun c b (pmRun c a x) := by
  induction b with
  | zero => rfl
  | succ b ih =>
    rw [← Nat.add_assoc, pmRun, pmRun, ih]

theorem pmRun_stay {c : Cfg} {a : Nat} {x : List Int × PM} (h : (pmRun c a x).2.pc = .done) (b : Nat) : pmRun c (a + b) x = pmRun c a x := by
  induction b with
  | zero => rfl
  | succ b ih => rw [← Nat.add_assoc, pmRun, ih, pmStep_done h]

theorem pmRun_upto {c : Cfg} {a m : Nat} {x y : List Int × PM} (h : pmRun c a x = y) (hd : y.2.pc = .done) (hm : a ≤ m) : pmRun c m x = y := by
  obtain ⟨b, rfl⟩ := Nat.exists_eq_add_of_le hm
  rw [pmRun_stay (by rw [h]; exact hd), h]

/-- Each thing's link is the next one's number. -/
def Linked (lf : Int → Int) (mem : List Int) : Int → List Int → Prop
  | place, [] => loI (mget mem place) = 0
  | place, p :: L => loI (mget mem place) = p ∧ Linked lf mem (lf p) L

theorem Linked.put {lf : Int → Int} {mem : List Int} {a x : Int} {L : List Int} {place : Int} (h : Linked lf mem place L) (h1 : place ≠ a) (h2 : ∀ p ∈ L, lf p ≠ a) : Linked lf (mput mem a x) place L := by
  induction L generalizing place with
  | nil => show loI (mget (mput mem a x) place) = 0; rw [mget_other h1]; exact h
  | cons p L ih =>
    refine ⟨?_, ih h.2 (h2 p (by simp)) (fun q hq => h2 q (by simp [hq]))⟩
    rw [mget_other h1]; exact h.1

theorem Linked.head {lf : Int → Int} {mem mem' : List Int} {place place' : Int} {L : List Int} (h : Linked lf mem place L) (e : loI (mget mem' place') = loI (mget mem place)) (hl : ∀ p ∈ L, loI (mget mem' (lf p)) = loI (mget mem (lf p))) : Linked lf mem' place' L := by
  induction L generalizing place place' with
  | nil => show loI (mget mem' place') = 0; rw [e]; exact h
  | cons p L ih =>
    refine ⟨by rw [e]; exact h.1, ih h.2 (hl p (by simp)) (fun q hq => hl q (by simp [hq]))⟩

/-- The stacks: the pool's packets, the spare ones. -/
structure Inv (c : Cfg) (mem : List Int) (P S : List Int) : Prop where
  len : (mem.length : Int) = allI c
  pool : Linked (lnk c) mem 4 P
  spare : Linked (lnk c) mem 5 S
  rng : ∀ p ∈ P ++ S, 1 ≤ p ∧ p ≤ manyI c
  nd : (P ++ S).Nodup

/-- A packet has these tasks. -/
def Content (c : Cfg) (mem : List Int) (p : Int) (ts : List Int) : Prop := mget mem (pPack c p 0) = ts.length ∧ ∀ j, j < ts.length → mget mem (pTask c p j) = ts[j]?.getD 0

theorem pack_is {c : Cfg} (hg : Good c) {p j : Int} (h1 : 1 ≤ p) (h2 : p ≤ manyI c) (h3 : 0 ≤ j) (h4 : j ≤ 5) : pPack c p j = pksI c + (p - 1) * 6 + j ∧ 16 ≤ pPack c p j ∧ pPack c p j < allI c := by
  obtain ⟨a, b, d, e⟩ := pack_place hg h1 h2 h3 h4
  exact ⟨e, a, by omega⟩

theorem task_is {c : Cfg} {p : Int} {j : Nat} (h : j < 4) : pTask c p j = pPack c p (2 + j) := if_pos ⟨by omega, by omega⟩

theorem pack_ne {c : Cfg} (hg : Good c) {p j q k : Int} (h1 : 1 ≤ p) (h2 : p ≤ manyI c) (h3 : 0 ≤ j) (h4 : j ≤ 5) (g1 : 1 ≤ q) (g2 : q ≤ manyI c) (g3 : 0 ≤ k) (g4 : k ≤ 5) (hn : p ≠ q ∨ j ≠ k) : pPack c p j ≠ pPack c q k := by
  have := (pack_is hg h1 h2 h3 h4).1
  have := (pack_is hg g1 g2 g3 g4).1
  omega

theorem Content.frame {c : Cfg} {mem mem' : List Int} {p : Int} {ts : List Int} (h : Content c mem p ts) (hl : ts.length ≤ 4) (hf : ∀ j, 0 ≤ j → j ≤ 5 → j ≠ 1 → mget mem' (pPack c p j) = mget mem (pPack c p j)) : Content c mem' p ts := by
  refine ⟨by rw [hf 0 (by omega) (by omega) (by omega)]; exact h.1, fun j hj => ?_⟩
  rw [task_is (by omega), hf (2 + j) (by omega) (by omega) (by omega), ← task_is (by omega)]
  exact h.2 j hj

section steps
variable {c : Cfg} {mem : List Int} {t : List Int} {j : Nat} {p hd i h l : Int}

theorem st_popHead (hz : loI (mget mem hd) ≠ 0) : pmStep c mem ⟨.last, t, j, p, ⟨.popHead, hd, i, h, l⟩⟩ = (mem, ⟨.last, t, j, p, ⟨.popLink, hd, loI (mget mem hd), mget mem hd, l⟩⟩) := by
  simp [pmStep, pmLast, smStep, hz, SPc.fin]
theorem st_popHead0 (hz : loI (mget mem hd) = 0) : pmStep c mem ⟨.last, t, j, p, ⟨.popHead, hd, i, h, l⟩⟩ = (mem, ⟨.done, t, j, 0, ⟨.done, hd, 0, mget mem hd, l⟩⟩) := by
  simp [pmStep, pmLast, smStep, hz, SPc.fin]
theorem st_popLink : pmStep c mem ⟨.last, t, j, p, ⟨.popLink, hd, i, h, l⟩⟩ = (mem, ⟨.last, t, j, p, ⟨.popSwap, hd, i, h, loI (mget mem (lnk c i))⟩⟩) := by
  simp [pmStep, pmLast, smStep, SPc.fin]
theorem st_popSwap (hh : mhit mem hd h = true) : pmStep c mem ⟨.last, t, j, p, ⟨.popSwap, hd, i, h, l⟩⟩ = (mput mem hd (turnI h l), ⟨.done, t, j, i, ⟨.done, hd, i, h, l⟩⟩) := by
  simp [pmStep, pmLast, smStep, hh, SPc.fin]
theorem st_pushHead : pmStep c mem ⟨.last, t, j, p, ⟨.pushHead, hd, i, h, l⟩⟩ = (mem, ⟨.last, t, j, p, ⟨.pushLink, hd, i, mget mem hd, loI (mget mem hd)⟩⟩) := by
  simp [pmStep, pmLast, smStep, SPc.fin]
theorem st_pushLink : pmStep c mem ⟨.last, t, j, p, ⟨.pushLink, hd, i, h, l⟩⟩ = (mput mem (lnk c i) l, ⟨.last, t, j, p, ⟨.pushSwap, hd, i, h, l⟩⟩) := by
  simp [pmStep, pmLast, smStep, SPc.fin]
theorem st_pushSwap (hh : mhit mem hd h = true) : pmStep c mem ⟨.last, t, j, p, ⟨.pushSwap, hd, i, h, l⟩⟩ = (mput mem hd (turnI h i), ⟨.done, t, j, i, ⟨.done, hd, i, h, l⟩⟩) := by
  simp [pmStep, pmLast, smStep, hh, SPc.fin]
theorem sp_popHead (hz : loI (mget mem hd) ≠ 0) : pmStep c mem ⟨.spare, t, j, p, ⟨.popHead, hd, i, h, l⟩⟩ = (mem, ⟨.spare, t, j, p, ⟨.popLink, hd, loI (mget mem hd), mget mem hd, l⟩⟩) := by
  simp [pmStep, pmSpare, smStep, hz, SPc.fin]
theorem sp_popLink : pmStep c mem ⟨.spare, t, j, p, ⟨.popLink, hd, i, h, l⟩⟩ = (mem, ⟨.spare, t, j, p, ⟨.popSwap, hd, i, h, loI (mget mem (lnk c i))⟩⟩) := by
  simp [pmStep, pmSpare, smStep, SPc.fin]
theorem sp_popSwap (hh : mhit mem hd h = true) (hi : i ≠ 0) : pmStep c mem ⟨.spare, t, j, p, ⟨.popSwap, hd, i, h, l⟩⟩ = (mput mem hd (turnI h l), ⟨.fill, t, j, i, ⟨.done, hd, i, h, l⟩⟩) := by
  simp [pmStep, pmSpare, smStep, hh, SPc.fin, hi]
theorem st_fill (x : SM) : pmStep c mem ⟨.fill, t, j, p, x⟩ = (mput mem (pTask c p j) (t[j]?.getD 0), ⟨if j + 1 = t.length then .many else .fill, t, j + 1, p, x⟩) := by
  simp [pmStep, pmFill]
theorem st_many (x : SM) : pmStep c mem ⟨.many, t, j, p, x⟩ = (mput mem (pPack c p 0) t.length, ⟨.last, t, j, p, ⟨.pushHead, 4, p, 0, 0⟩⟩) := by
  simp [pmStep, pmMany]
end steps

/-- Three steps that take the first thing of a stack. -/
theorem run_pop {c : Cfg} {mem : List Int} {t : List Int} {hd i h l p0 : Int} {j : Nat} (hh : 0 ≤ hd ∧ hd < mem.length) (hz : loI (mget mem hd) ≠ 0) :
    pmRun c 3 (mem, ⟨.last, t, j, p0, ⟨.popHead, hd, i, h, l⟩⟩) = (mput mem hd (turnI (mget mem hd) (loI (mget mem (lnk c (loI (mget mem hd)))))), ⟨.done, t, j, loI (mget mem hd), ⟨.done, hd, loI (mget mem hd), mget mem hd, loI (mget mem (lnk c (loI (mget mem hd))))⟩⟩) := by
  simp only [pmRun]
  rw [st_popHead hz]
  simp only []
  rw [st_popLink]
  simp only []
  rw [st_popSwap (mhit_self hh)]

/-- Three steps that push. -/
theorem run_push {c : Cfg} {mem : List Int} {t : List Int} {hd i h l p0 : Int} {j : Nat} (hh : 0 ≤ hd ∧ hd < mem.length) (hne : hd ≠ lnk c i) :
    pmRun c 3 (mem, ⟨.last, t, j, p0, ⟨.pushHead, hd, i, h, l⟩⟩) = (mput (mput mem (lnk c i) (loI (mget mem hd))) hd (turnI (mget mem hd) i), ⟨.done, t, j, i, ⟨.done, hd, i, mget mem hd, loI (mget mem hd)⟩⟩) := by
  simp only [pmRun]
  rw [st_pushHead]
  simp only []
  rw [st_pushLink]
  simp only []
  rw [st_pushSwap]
  have := mhit_self (mem := mput mem (lnk c i) (loI (mget mem hd))) (a := hd) (by rw [mput_len]; exact hh)
  rwa [mget_other hne] at this

/-- Memory with k tasks in a packet. -/
def fillTo (c : Cfg) (p : Int) (t : List Int) (mem : List Int) : Nat → List Int
  | 0 => mem
  | k + 1 => mput (fillTo c p t mem k) (pTask c p k) (t[k]?.getD 0)

theorem run_fill {c : Cfg} {mem : List Int} {t : List Int} {p : Int} {x : SM} (k : Nat) (hk : k < t.length) : pmRun c k (mem, ⟨.fill, t, 0, p, x⟩) = (fillTo c p t mem k, ⟨.fill, t, k, p, x⟩) := by
  induction k with
  | zero => rfl
  | succ k ih =>
    rw [pmRun, ih (by omega)]
    simp only []
    rw [st_fill, if_neg (by omega)]
    rfl

theorem run_fillAll {c : Cfg} {mem : List Int} {t : List Int} {p : Int} {x : SM} (ht : 0 < t.length) : pmRun c t.length (mem, ⟨.fill, t, 0, p, x⟩) = (fillTo c p t mem t.length, ⟨.many, t, t.length, p, x⟩) := by
  obtain ⟨k, hk⟩ : ∃ k, t.length = k + 1 := ⟨t.length - 1, by omega⟩
  rw [hk, pmRun, run_fill k (by omega)]
  simp only []
  rw [st_fill, if_pos (by omega)]
  rfl

theorem fillTo_len (c : Cfg) (p : Int) (t : List Int) (mem : List Int) (k : Nat) : (fillTo c p t mem k).length = mem.length := by
  induction k with
  | zero => rfl
  | succ k ih => rw [fillTo, mput_len, ih]

theorem fillTo_other {c : Cfg} {p : Int} {t : List Int} {mem : List Int} {b : Int} (k : Nat) (h : ∀ j : Nat, j < k → b ≠ pTask c p j) : mget (fillTo c p t mem k) b = mget mem b := by
  induction k with
  | zero => rfl
  | succ k ih => rw [fillTo, mget_other (h k (by omega)), ih (fun j hj => h j (by omega))]

theorem fillTo_task {c : Cfg} (hg : Good c) {p : Int} {t : List Int} {mem : List Int} (h1 : 1 ≤ p) (h2 : p ≤ manyI c) (hl : (mem.length : Int) = allI c) (k : Nat) (hk : k ≤ 4) (j : Nat) (hj : j < k) : mget (fillTo c p t mem k) (pTask c p j) = t[j]?.getD 0 := by
  induction k with
  | zero => omega
  | succ k ih =>
    rw [fillTo]
    by_cases e : j = k
    · subst e
      have := pack_is hg h1 h2 (j := 2 + j) (by omega) (by omega)
      rw [mget_put]
      rw [fillTo_len, task_is (by omega)]; omega
    · rw [mget_other, ih (by omega) (by omega)]
      rw [task_is (by omega), task_is (by omega)]
      exact pack_ne hg h1 h2 (by omega) (by omega) h1 h2 (by omega) (by omega) (.inr (by omega))

end Go.Proofs.Ytchlbdfapgeebaa
