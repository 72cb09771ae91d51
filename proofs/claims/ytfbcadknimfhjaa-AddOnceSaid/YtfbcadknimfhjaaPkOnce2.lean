/- Three that put packets, take them and put them back, as plain numbers: how far each is from its end. No program. -/
import Derived.Test.YtfbcadknimfhjaaPkOnce
import Derived.Test.YtfbcadknimfhjaaPkF
import Derived.Test.YtfbcadknimfhjaaPkBegp
namespace Go.Proofs.Ytfbcadknimfhjaa
open Go.RowKit

/-- How many steps a stack's machine has, if no one comes between. -/
def SPc.left : SPc → Nat
  | .done => 0
  | .pushHead => 3
  | .pushLink => 2
  | .pushSwap => 1
  | .popHead => 3
  | .popLink => 2
  | .popSwap => 1

/-- What it has seen is old. -/
def staleS (mem : List Int) (x : SM) : Nat := if (x.pc = .pushLink ∨ x.pc = .pushSwap ∨ x.pc = .popLink ∨ x.pc = .popSwap) ∧ mget mem x.head ≠ x.h then 3 else 0

theorem stale_le (mem : List Int) (x : SM) : staleS mem x ≤ 3 := by
  unfold staleS; split <;> omega

/-- A stack's machine comes nearer to its end. -/
theorem sm_less {lf : Int → Int} {mem : List Int} {x : SM} (hx : x.pc ≠ .done) (hin : 0 ≤ x.head ∧ x.head < mem.length) (hl : lf x.item ≠ x.head) (hd : (smStep lf mem x).2.pc ≠ .done) :
    (smStep lf mem x).2.pc.left + staleS (smStep lf mem x).1 (smStep lf mem x).2 + 1 ≤ x.pc.left + staleS mem x := by
  obtain ⟨pc, head, item, h, link⟩ := x
  cases pc
  · exact absurd rfl hx
  · simp [smStep, SPc.left, staleS]
  · simp only [smStep, SPc.left, staleS]
    simp only at hl
    rw [mget_other hl.symm]
    simp; omega
  · simp only [smStep] at hd ⊢
    rw [mhit_iff hin] at hd ⊢
    by_cases e : mget mem head = h
    · simp [e] at hd
    · simp [e, SPc.left, staleS]
  · simp only [smStep] at hd ⊢
    by_cases e : loI (mget mem head) = 0
    · simp [e] at hd
    · simp [e, SPc.left, staleS]
  · simp only [smStep, SPc.left, staleS]
    simp
    split <;> omega
  · simp only [smStep] at hd ⊢
    rw [mhit_iff hin] at hd ⊢
    by_cases e : mget mem head = h
    · simp [e] at hd
    · simp [e, SPc.left, staleS]

/-- How many steps a packet's machine has, if no one comes between; one task. -/
def PM.left (s : PM) : Nat := match s.pc with
  | .done => 0
  | .spare => s.x.pc.left + 5
  | .fill => 5
  | .many => 4
  | .last => s.x.pc.left

def PM.stale (mem : List Int) (s : PM) : Nat := match s.pc with
  | .spare => staleS mem s.x
  | .last => staleS mem s.x
  | _ => 0

/-- How often it turns a head. -/
def PM.turns (s : PM) : Nat := match s.pc with
  | .done => 0
  | .spare => 2
  | _ => 1

theorem PM.left_le (s : PM) : s.left ≤ 8 := by
  have : s.x.pc.left ≤ 3 := by cases s.x.pc <;> simp [SPc.left]
  unfold PM.left; split <;> omega

theorem PM.stale_le (mem : List Int) (s : PM) : s.stale mem ≤ 3 := by
  unfold PM.stale; split
  · exact Go.Proofs.Ytfbcadknimfhjaa.stale_le _ _
  · exact Go.Proofs.Ytfbcadknimfhjaa.stale_le _ _
  · omega

theorem PM.turns_le (s : PM) : s.turns ≤ 2 := by
  unfold PM.turns; split <;> omega

/-- What has been seen stays as old as it was, or it was old at most. -/
theorem PM.stale_frm {mem mem' : List Int} {s : PM} (h : s.pc = .spare ∨ s.pc = .last → s.x.head = 4 ∨ s.x.head = 5) (h4 : mget mem' 4 = mget mem 4) (h5 : mget mem' 5 = mget mem 5) : s.stale mem' = s.stale mem := by
  have hh : s.pc = .spare ∨ s.pc = .last → mget mem' s.x.head = mget mem s.x.head := fun e => by
    rcases h e with e | e <;> rw [e] <;> assumption
  unfold PM.stale staleS
  split
  · next e => rw [hh (.inl e)]
  · next e => rw [hh (.inr e)]
  · rfl

/-- A machine's own step: it comes nearer; a head that is turned is one turn less. -/
theorem pm_less {c : Cfg} {mem P S : List Int} {r : Role} {pm : PM} {own : List Int} (hg : Good c) (hi : Inv c mem P S) (hU : ∀ x ∈ mem, U x) (hb : PB c mem r pm own) (ht : ∀ ts, r = .put ts → ts.length = 1)
    (ho : ∀ q ∈ own, 1 ≤ q ∧ q ≤ manyI c) (hS : pm.pc = .spare → S ≠ []) (hd : pm.pc ≠ .done) :
    ((pmStep c mem pm).2.pc ≠ .done → (pmStep c mem pm).2.left + (pmStep c mem pm).2.stale (pmStep c mem pm).1 + 1 ≤ pm.left + pm.stale mem) ∧
    (pmStep c mem pm).2.turns ≤ pm.turns ∧ ((mget (pmStep c mem pm).1 4 = mget mem 4 ∧ mget (pmStep c mem pm).1 5 = mget mem 5) ∨ (pmStep c mem pm).2.turns + 1 ≤ pm.turns) := by
  have hA := allI_bound hg
  have hlen := hi.len
  have hl6 : 6 ≤ mem.length := by omega
  have hmb := manyI_bound hg
  -- a pop's step
  have pop : ∀ (hdp : Int) (L : List Int) (x : SM), (hdp = 4 ∨ hdp = 5) → Linked (lnk c) mem hdp L → (∀ q ∈ L, q ∈ P ++ S) → PopSt c mem hdp x →
      (∃ y, smStep (lnk c) mem x = (mem, y) ∧ y.pc ≠ .done ∧ y.pc.left + staleS mem y + 1 ≤ x.pc.left + staleS mem x) ∨ (smStep (lnk c) mem x).2.pc = .done ∧ (L = [] → (smStep (lnk c) mem x).1 = mem) ∧ (L ≠ [] → (smStep (lnk c) mem x).2.item ≠ 0) := fun hdp L x hh hL hq hx => by
    have hxd : x.pc ≠ .done := fun e => by unfold PopSt at hx; rw [e] at hx; exact hx.2
    have hxh : x.head = hdp := hx.1
    rcases pop_cases hg hh hl6 hU hL hx (fun q h => hi.rng q (hq q h)) with ⟨y, e, hy, hn⟩ | ⟨y, e, hy, hi0, hz⟩ | ⟨q, L', y, rfl, e, hy, hyi, hq0⟩
    · left
      refine ⟨y, e, hn, ?_⟩
      by_cases hlk : x.pc = .pushLink
      · unfold PopSt at hx; rw [hlk] at hx; exact hx.2.elim
      · by_cases hne : lnk c x.item = x.head
        · -- the link's place plays no part
          obtain ⟨pc, head, item, h, link⟩ := x
          have : ∃ lf : Int → Int, lf item ≠ head ∧ (smStep lf mem ⟨pc, head, item, h, link⟩).1 = mem ∧ (smStep lf mem ⟨pc, head, item, h, link⟩).2.pc = y.pc ∧ (smStep lf mem ⟨pc, head, item, h, link⟩).2.head = y.head ∧ (smStep lf mem ⟨pc, head, item, h, link⟩).2.h = y.h := by
            refine ⟨fun _ => head + 1, by show head + 1 ≠ head; omega, ?_⟩
            cases pc <;> simp only [PopSt] at hx <;> simp only [smStep] at e ⊢ <;> first
              | exact absurd rfl hlk
              | (exact hx.2.elim)
              | (split at e <;> simp only [Prod.mk.injEq] at e <;> obtain ⟨e1, rfl⟩ := e <;> simp_all)
              | (simp only [Prod.mk.injEq] at e; obtain ⟨e1, rfl⟩ := e; simp_all)
          obtain ⟨lf, h1, h2, h3, h4, h5⟩ := this
          have := sm_less (lf := lf) (mem := mem) (x := ⟨pc, head, item, h, link⟩) hxd (by simp only at hxh; rcases hh with e | e <;> simp only <;> omega) h1 (by rw [h3]; exact hn)
          rw [h2] at this
          unfold staleS at this ⊢
          rw [h3, h4, h5] at this
          exact this
        · have := sm_less (lf := lnk c) (mem := mem) (x := x) hxd (by rw [hxh]; rcases hh with e | e <;> omega) hne (by rw [e]; exact hn)
          rw [e] at this
          exact this
    · right
      rw [e]
      exact ⟨hy, fun _ => rfl, fun h => absurd hz h⟩
    · right
      rw [e]
      exact ⟨hy, fun h => (by cases h), fun _ => by rw [hyi]; exact hq0⟩
  have push : ∀ (hdp q : Int) (x : SM), (hdp = 4 ∨ hdp = 5) → 1 ≤ q ∧ q ≤ manyI c → PushSt c mem hdp q x →
      (∃ y mem', smStep (lnk c) mem x = (mem', y) ∧ (mget mem' 4 = mget mem 4 ∧ mget mem' 5 = mget mem 5) ∧ y.pc ≠ .done ∧ y.pc.left + staleS mem' y + 1 ≤ x.pc.left + staleS mem x) ∨ (smStep (lnk c) mem x).2.pc = .done := fun hdp q x hh hq hx => by
    have hxd : x.pc ≠ .done := fun e => by unfold PushSt at hx; rw [e] at hx; exact hx.2.2
    have hlq := lnk_big hg hq
    rcases push_cases hg hh hlen hq hx with ⟨y, mem', e, hm, hy, hn⟩ | ⟨y, e, hy, _, _⟩
    · left
      refine ⟨y, mem', e, ?_, hn, ?_⟩
      · rcases hm with rfl | ⟨v, rfl⟩
        · exact ⟨rfl, rfl⟩
        · exact ⟨mget_other (by omega), mget_other (by omega)⟩
      · have := sm_less (lf := lnk c) (mem := mem) (x := x) hxd (by rw [hx.1]; rcases hh with e | e <;> omega) (by rw [hx.2.1, hx.1]; rcases hh with e | e <;> omega) (by rw [e]; exact hn)
        rw [e] at this
        exact this
    · right
      rw [e]; exact hy
  obtain ⟨pc, tasks, j, p, x⟩ := pm
  cases r with
  | put ts =>
    obtain ⟨rfl, hb⟩ := hb
    have ht1 := ht _ rfl
    simp only at hb ht1
    cases pc <;> simp only at hb hd hS
    · exact absurd rfl hd
    · obtain ⟨rfl, rfl, hx⟩ := hb
      rcases pop 5 S x (.inr rfl) hi.spare (fun q h => by simp [h]) hx with ⟨y, e, hn, hl⟩ | ⟨e1, e2, e3⟩
      · have : pmStep c mem ⟨.spare, tasks, 0, p, x⟩ = (mem, ⟨.spare, tasks, 0, p, y⟩) := by
          simp [pmStep, pmSpare, e, sfin_no hn]
        rw [this]
        refine ⟨fun _ => ?_, Nat.le_refl _, .inl ⟨rfl, rfl⟩⟩
        simp only [PM.left, PM.stale]
        omega
      · have hne := e3 (hS trivial)
        have : (pmStep c mem ⟨.spare, tasks, 0, p, x⟩).2 = ⟨.fill, tasks, 0, (smStep (lnk c) mem x).2.item, (smStep (lnk c) mem x).2⟩ := by
          simp [pmStep, pmSpare, e1, SPc.fin, hne]
        rw [this]
        refine ⟨fun _ => ?_, by simp [PM.turns], .inr (by simp [PM.turns])⟩
        have : 1 ≤ x.pc.left := by
          have := hx.2
          revert this
          cases x.pc <;> simp [SPc.left]
        simp only [PM.left, PM.stale]
        omega
    · obtain ⟨rfl, hj, hw⟩ := hb
      have hp := ho p (by simp)
      obtain rfl : j = 0 := by omega
      rw [st_fill]
      have hpb := (pack_is hg hp.1 hp.2 (j := 2 + ((0 : Nat) : Int)) (by omega) (by omega)).2
      have htk : pTask c p ((0 : Nat) : Int) = pPack c p (2 + (0 : Nat)) := task_is (by omega)
      refine ⟨fun _ => ?_, ?_, .inl ⟨mget_other ?_, mget_other ?_⟩⟩
      · simp [ht1, PM.left, PM.stale]
      · simp [ht1, PM.turns]
      · rw [htk]; omega
      · rw [htk]; omega
    · obtain ⟨rfl, hw⟩ := hb
      have hp := ho p (by simp)
      rw [st_many]
      have hpb := (pack_is hg hp.1 hp.2 (j := 0) (by omega) (by omega)).2
      refine ⟨fun _ => ?_, Nat.le_refl _, .inl ⟨mget_other (by omega), mget_other (by omega)⟩⟩
      simp [PM.left, PM.stale, SPc.left, staleS]
    · obtain ⟨rfl, hc, hx⟩ := hb
      have hp := ho p (by simp)
      rcases push 4 p x (.inl rfl) hp hx with ⟨y, mem', e, hm, hn, hl⟩ | e1
      · have : pmStep c mem ⟨.last, tasks, j, p, x⟩ = (mem', ⟨.last, tasks, j, p, y⟩) := by
          simp [pmStep, pmLast, e, sfin_no hn]
        rw [this]
        refine ⟨fun _ => ?_, Nat.le_refl _, .inl hm⟩
        simp only [PM.left, PM.stale]
        omega
      · have : (pmStep c mem ⟨.last, tasks, j, p, x⟩).2.pc = .done := by
          simp [pmStep, pmLast, e1, SPc.fin]
        refine ⟨fun e => absurd this e, ?_, .inr ?_⟩
        · simp [PM.turns, this]
        · simp [PM.turns, this]
  | take =>
    simp only [PB] at hb
    cases pc <;> simp only at hb hd hS
    · exact absurd rfl hd
    · obtain ⟨rfl, hx⟩ := hb
      rcases pop 4 P x (.inl rfl) hi.pool (fun q h => by simp [h]) hx with ⟨y, e, hn, hl⟩ | ⟨e1, _⟩
      · have : pmStep c mem ⟨.last, tasks, j, p, x⟩ = (mem, ⟨.last, tasks, j, p, y⟩) := by
          simp [pmStep, pmLast, e, sfin_no hn]
        rw [this]
        refine ⟨fun _ => ?_, Nat.le_refl _, .inl ⟨rfl, rfl⟩⟩
        simp only [PM.left, PM.stale]
        omega
      · have : (pmStep c mem ⟨.last, tasks, j, p, x⟩).2.pc = .done := by
          simp [pmStep, pmLast, e1, SPc.fin]
        refine ⟨fun e => absurd this e, ?_, .inr ?_⟩
        · simp [PM.turns, this]
        · simp [PM.turns, this]
  | back q =>
    simp only [PB] at hb
    cases pc <;> simp only at hb hd hS
    · exact absurd rfl hd
    · obtain ⟨rfl, hx⟩ := hb
      have hp := ho q (by simp)
      rcases push 5 q x (.inr rfl) hp hx with ⟨y, mem', e, hm, hn, hl⟩ | e1
      · have : pmStep c mem ⟨.last, tasks, j, p, x⟩ = (mem', ⟨.last, tasks, j, p, y⟩) := by
          simp [pmStep, pmLast, e, sfin_no hn]
        rw [this]
        refine ⟨fun _ => ?_, Nat.le_refl _, .inl hm⟩
        simp only [PM.left, PM.stale]
        omega
      · have : (pmStep c mem ⟨.last, tasks, j, p, x⟩).2.pc = .done := by
          simp [pmStep, pmLast, e1, SPc.fin]
        refine ⟨fun e => absurd this e, ?_, .inr ?_⟩
        · simp [PM.turns, this]
        · simp [PM.turns, this]

end Go.Proofs.Ytfbcadknimfhjaa
