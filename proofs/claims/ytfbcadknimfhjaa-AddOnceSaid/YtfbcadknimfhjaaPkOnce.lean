/- Packets that are put, taken and put back by several at once: plain numbers. No program. -/
import Derived.Test.YtfbcadknimfhjaaPkF
namespace Go.Proofs.Ytfbcadknimfhjaa
open Go.RowKit

theorem hiI_turn {w low : Int} (hw : hiI w < 4294967295) (hw0 : 0 ≤ hiI w) (h0 : 0 ≤ low) (h1 : low < 4294967296) : hiI (turnI w low) = hiI w + 1 := by
  unfold hiI at *; unfold turnI hiI; omega

/-- A pop of the stack at hd: what it has seen is so, or the head was turned since. -/
def PopSt (c : Cfg) (mem : List Int) (hd : Int) (x : SM) : Prop := x.head = hd ∧
  match x.pc with
  | .popHead => True
  | .popLink => x.item = loI x.h ∧ x.item ≠ 0 ∧ hiI x.h ≤ hiI (mget mem hd)
  | .popSwap => x.item = loI x.h ∧ x.item ≠ 0 ∧ hiI x.h ≤ hiI (mget mem hd) ∧ (mget mem hd = x.h → x.link = loI (mget mem (lnk c x.item)))
  | _ => False

/-- A push of q. -/
def PushSt (c : Cfg) (mem : List Int) (hd q : Int) (x : SM) : Prop := x.head = hd ∧ x.item = q ∧
  match x.pc with
  | .pushHead => True
  | .pushLink => x.link = loI x.h ∧ hiI x.h ≤ hiI (mget mem hd)
  | .pushSwap => x.link = loI x.h ∧ hiI x.h ≤ hiI (mget mem hd) ∧ mget mem (lnk c q) = x.link
  | _ => False

/-- What one is doing. -/
inductive Role where
  | put (ts : List Int) | take | back (p : Int)

/-- What a machine has, and which packets it has alone. -/
def PB (c : Cfg) (mem : List Int) (r : Role) (pm : PM) (own : List Int) : Prop :=
  match r with
  | .put ts => pm.tasks = ts ∧ (match pm.pc with
    | .spare => own = [] ∧ pm.j = 0 ∧ PopSt c mem 5 pm.x
    | .fill => own = [pm.p] ∧ pm.j < ts.length ∧ ∀ i : Nat, i < pm.j → mget mem (pTask c pm.p i) = ts[i]?.getD 0
    | .many => own = [pm.p] ∧ ∀ i : Nat, i < ts.length → mget mem (pTask c pm.p i) = ts[i]?.getD 0
    | .last => own = [pm.p] ∧ Content c mem pm.p ts ∧ PushSt c mem 4 pm.p pm.x
    | .done => own = [])
  | .take => (match pm.pc with
    | .last => own = [] ∧ PopSt c mem 4 pm.x
    | .done => own = if pm.p = 0 then [] else [pm.p]
    | _ => False)
  | .back q => (match pm.pc with
    | .last => own = [q] ∧ PushSt c mem 5 q pm.x
    | .done => own = [] ∧ pm.p = q
    | _ => False)

/-- What others see of a step of one who has these packets. -/
structure Frm (c : Cfg) (own : List Int) (mem mem' : List Int) : Prop where
  len : mem'.length = mem.length
  pks : ∀ q j, 1 ≤ q → q ≤ manyI c → q ∉ own → 0 ≤ j → j ≤ 5 → mget mem' (pPack c q j) = mget mem (pPack c q j)
  far : ∀ a, a ≠ 4 → a ≠ 5 → (∀ q ∈ own, ∀ j, 0 ≤ j → j ≤ 5 → a ≠ pPack c q j) → mget mem' a = mget mem a
  hd4 : mget mem' 4 = mget mem 4 ∨ hiI (mget mem' 4) = hiI (mget mem 4) + 1
  hd5 : mget mem' 5 = mget mem 5 ∨ hiI (mget mem' 5) = hiI (mget mem 5) + 1

theorem Frm.refl (c : Cfg) (own mem : List Int) : Frm c own mem mem := ⟨rfl, fun _ _ _ _ _ _ _ => rfl, fun _ _ _ _ => rfl, .inl rfl, .inl rfl⟩

theorem Frm.hd {c : Cfg} {own mem mem' : List Int} (h : Frm c own mem mem') {hd : Int} (hh : hd = 4 ∨ hd = 5) : mget mem' hd = mget mem hd ∨ hiI (mget mem' hd) = hiI (mget mem hd) + 1 := by
  rcases hh with rfl | rfl
  · exact h.hd4
  · exact h.hd5

theorem Linked.first {lf : Int → Int} {mem : List Int} {place : Int} {L : List Int} (h : Linked lf mem place L) (hz : loI (mget mem place) ≠ 0) : ∃ p L', L = p :: L' ∧ loI (mget mem place) = p ∧ Linked lf mem (lf p) L' := by
  cases L with
  | nil => exact absurd h hz
  | cons p L => exact ⟨p, L, rfl, h.1, h.2⟩

/-- Another's step. -/
theorem PopSt.frm {c : Cfg} {own mem mem' P : List Int} {hd : Int} {x : SM} (h : PopSt c mem hd x) (hf : Frm c own mem mem') (hh : hd = 4 ∨ hd = 5) (hL : Linked (lnk c) mem hd P) (hr : ∀ q ∈ P, 1 ≤ q ∧ q ≤ manyI c ∧ q ∉ own) : PopSt c mem' hd x := by
  obtain ⟨h1, h2⟩ := h
  refine ⟨h1, ?_⟩
  have hge : hiI (mget mem hd) ≤ hiI (mget mem' hd) := by
    rcases hf.hd hh with e | e
    · rw [e]; exact Int.le_refl _
    · omega
  split at h2
  · trivial
  · exact ⟨h2.1, h2.2.1, by omega⟩
  · refine ⟨h2.1, h2.2.1, by omega, fun e => ?_⟩
    rcases hf.hd hh with e' | e'
    · rw [e'] at e
      obtain ⟨p, L', rfl, hp, _⟩ := hL.first (by rw [e, ← h2.1]; exact h2.2.1)
      have hpr := hr p (by simp)
      have hxi : x.item = p := by rw [h2.1, ← e, hp]
      rw [h2.2.2.2 e, hxi]
      show loI (mget mem (pPack c p 1)) = loI (mget mem' (pPack c p 1))
      rw [hf.pks p 1 hpr.1 hpr.2.1 hpr.2.2 (by omega) (by omega)]
    · rw [e] at e'
      omega
  · exact h2

theorem PushSt.frm {c : Cfg} {own mem mem' : List Int} {hd q : Int} {x : SM} (h : PushSt c mem hd q x) (hf : Frm c own mem mem') (hh : hd = 4 ∨ hd = 5) (hq : 1 ≤ q ∧ q ≤ manyI c ∧ q ∉ own) : PushSt c mem' hd q x := by
  obtain ⟨h1, h2, h3⟩ := h
  refine ⟨h1, h2, ?_⟩
  have hge : hiI (mget mem hd) ≤ hiI (mget mem' hd) := by
    rcases hf.hd hh with e | e
    · rw [e]; exact Int.le_refl _
    · omega
  split at h3
  · trivial
  · exact ⟨h3.1, by omega⟩
  · exact ⟨h3.1, by omega, by rw [show lnk c q = pPack c q 1 from rfl, hf.pks q 1 hq.1 hq.2.1 hq.2.2 (by omega) (by omega)]; exact h3.2.2⟩
  · exact h3

theorem Content.frm {c : Cfg} {own mem mem' : List Int} {p : Int} {ts : List Int} (h : Content c mem p ts) (hl : ts.length ≤ 4) (hf : Frm c own mem mem') (hq : 1 ≤ p ∧ p ≤ manyI c ∧ p ∉ own) : Content c mem' p ts :=
  h.frame hl (fun j j0 j1 _ => hf.pks p j hq.1 hq.2.1 hq.2.2 j0 j1)

/-- Another's step leaves one's own state as it is. -/
theorem PB.frm {c : Cfg} {own mem mem' P S : List Int} {r : Role} {pm : PM} {mine : List Int} (h : PB c mem r pm mine) (hl : pm.tasks.length ≤ 4) (hf : Frm c own mem mem') (hi : Inv c mem P S)
    (hr : ∀ q ∈ P ++ S, q ∉ own) (hm : ∀ q ∈ mine, 1 ≤ q ∧ q ≤ manyI c ∧ q ∉ own) : PB c mem' r pm mine := by
  have hP : ∀ q ∈ P, 1 ≤ q ∧ q ≤ manyI c ∧ q ∉ own := fun q hq => ⟨(hi.rng q (by simp [hq])).1, (hi.rng q (by simp [hq])).2, hr q (by simp [hq])⟩
  have hS : ∀ q ∈ S, 1 ≤ q ∧ q ≤ manyI c ∧ q ∉ own := fun q hq => ⟨(hi.rng q (by simp [hq])).1, (hi.rng q (by simp [hq])).2, hr q (by simp [hq])⟩
  unfold PB at *
  cases r with
  | put ts =>
    simp only at h ⊢
    obtain ⟨ht, h⟩ := h
    refine ⟨ht, ?_⟩
    have task : ∀ i : Nat, i < ts.length → pm.p ∈ mine → mget mem' (pTask c pm.p i) = mget mem (pTask c pm.p i) := fun i hi4 hin => by
      have := hm _ hin
      rw [task_is (by rw [ht] at hl; omega)]
      exact hf.pks _ _ this.1 this.2.1 this.2.2 (by omega) (by rw [ht] at hl; omega)
    split at h
    · exact ⟨h.1, h.2.1, h.2.2.frm hf (.inr rfl) hi.spare hS⟩
    · refine ⟨h.1, h.2.1, fun i hi4 => ?_⟩
      rw [task i (by omega) (by rw [h.1]; simp)]; exact h.2.2 i hi4
    · refine ⟨h.1, fun i hi4 => ?_⟩
      rw [task i hi4 (by rw [h.1]; simp)]; exact h.2 i hi4
    · have := hm pm.p (by rw [h.1]; simp)
      exact ⟨h.1, h.2.1.frm (by rw [← ht]; exact hl) hf this, h.2.2.frm hf (.inl rfl) this⟩
    · exact h
  | take =>
    simp only at h ⊢
    split at h
    · exact ⟨h.1, h.2.frm hf (.inl rfl) hi.pool hP⟩
    · exact h
    · exact h
  | back q =>
    simp only at h ⊢
    split at h
    · exact ⟨h.1, h.2.frm hf (.inr rfl) (hm q (by rw [h.1]; simp))⟩
    · exact h
    · exact h

section steps2
variable {c : Cfg} {mem : List Int} {t : List Int} {j : Nat} {p hd i h l : Int}

theorem st_popMiss (hh : mhit mem hd h = false) : pmStep c mem ⟨.last, t, j, p, ⟨.popSwap, hd, i, h, l⟩⟩ = (mem, ⟨.last, t, j, p, ⟨.popHead, hd, i, h, l⟩⟩) := by
  simp [pmStep, pmLast, smStep, hh, SPc.fin]
theorem st_pushMiss (hh : mhit mem hd h = false) : pmStep c mem ⟨.last, t, j, p, ⟨.pushSwap, hd, i, h, l⟩⟩ = (mem, ⟨.last, t, j, p, ⟨.pushHead, hd, i, h, l⟩⟩) := by
  simp [pmStep, pmLast, smStep, hh, SPc.fin]
theorem sp_popMiss (hh : mhit mem hd h = false) : pmStep c mem ⟨.spare, t, j, p, ⟨.popSwap, hd, i, h, l⟩⟩ = (mem, ⟨.spare, t, j, p, ⟨.popHead, hd, i, h, l⟩⟩) := by
  simp [pmStep, pmSpare, smStep, hh, SPc.fin]
end steps2

theorem mhit_iff {mem : List Int} {a old : Int} (ha : 0 ≤ a ∧ a < mem.length) : mhit mem a old = decide (mget mem a = old) := by
  unfold mhit; rw [decide_eq_true ha, Bool.true_and]

/-- The head of a stack changed: the first thing is taken. -/
theorem Linked.pop {lf : Int → Int} {mem : List Int} {hd w : Int} {p : Int} {L : List Int} (h : Linked lf mem hd (p :: L)) (hd0 : 0 ≤ hd ∧ hd < mem.length) (hw : loI w = loI (mget mem (lf p))) (hl : ∀ q ∈ L, lf q ≠ hd) : Linked lf (mput mem hd w) hd L :=
  Linked.head h.2 (by rw [mget_put hd0, hw]) (fun q hq => by rw [mget_other (hl q hq)])

theorem Linked.push {lf : Int → Int} {mem : List Int} {hd w : Int} {p : Int} {L : List Int} (h : Linked lf mem hd L) (hd0 : 0 ≤ hd ∧ hd < mem.length) (hw : loI w = p) (hp : loI (mget mem (lf p)) = loI (mget mem hd)) (hl : ∀ q ∈ p :: L, lf q ≠ hd) : Linked lf (mput mem hd w) hd (p :: L) :=
  ⟨by rw [mget_put hd0, hw], Linked.head h (by rw [mget_other (hl p (by simp)), hp]) (fun q hq => by rw [mget_other (hl q (by simp [hq]))])⟩

theorem Inv.chg {c : Cfg} {mem mem' P S P' S' : List Int} (hi : Inv c mem P S) (hl : mem'.length = mem.length) (h1 : Linked (lnk c) mem' 4 P') (h2 : Linked (lnk c) mem' 5 S') (own own' : List Int) (hp : (own' ++ P' ++ S').Perm (own ++ P ++ S)) (ho : ∀ q ∈ own, 1 ≤ q ∧ q ≤ manyI c) (hnd : (own ++ P ++ S).Nodup) : Inv c mem' P' S' := by
  refine ⟨by rw [hl]; exact hi.len, h1, h2, fun q hq => ?_, ?_⟩
  · have : q ∈ own ++ P ++ S := hp.mem_iff.1 (by simp at hq ⊢; rcases hq with h | h <;> simp [h])
    simp at this
    rcases this with h | h | h
    · exact ho q h
    · exact hi.rng q (by simp [h])
    · exact hi.rng q (by simp [h])
  · have := hp.nodup_iff.2 hnd
    rw [List.append_assoc] at this
    exact (List.nodup_append.1 this).2.1

/-- A write into an owned packet. -/
theorem Frm.put {c : Cfg} {mem : List Int} {q a x : Int} (hg : Good c) (hq : 1 ≤ q ∧ q ≤ manyI c) (ha : ∃ j, 0 ≤ j ∧ j ≤ 5 ∧ a = pPack c q j) : Frm c [q] mem (mput mem a x) := by
  obtain ⟨j, j0, j1, rfl⟩ := ha
  have hb := (pack_is hg hq.1 hq.2 j0 j1).2
  refine ⟨mput_len _ _ _, fun r k r1 r2 hr k0 k1 => ?_, fun b _ _ hb' => ?_, .inl ?_, .inl ?_⟩
  · rw [mget_other (pack_ne hg r1 r2 k0 k1 hq.1 hq.2 j0 j1 (.inl (by simpa using hr)))]
  · rw [mget_other (hb' q (by simp) j j0 j1)]
  · rw [mget_other (by omega)]
  · rw [mget_other (by omega)]

/-- A head is turned. -/
theorem Frm.turn {c : Cfg} {own mem : List Int} {hd low : Int} (hg : Good c) (hh : hd = 4 ∨ hd = 5) (hl : 6 ≤ mem.length) (h0 : 0 ≤ low) (h1 : low < 4294967296) (hU : ∀ x ∈ mem, U x) (hb : hiI (mget mem hd) < 4294967295) : Frm c own mem (mput mem hd (turnI (mget mem hd) low)) := by
  have hin : 0 ≤ hd ∧ hd < (mem.length : Int) := by rcases hh with rfl | rfl <;> omega
  have hw := mget_all hU hd
  have ht : hiI (turnI (mget mem hd) low) = hiI (mget mem hd) + 1 := hiI_turn hb (hiI_bound hw.1 hw.2).1 h0 h1
  refine ⟨mput_len _ _ _, fun r k r1 r2 _ k0 k1 => ?_, fun a a4 a5 _ => ?_, ?_, ?_⟩
  · have := (pack_is hg r1 r2 k0 k1).2
    rw [mget_other (by rcases hh with rfl | rfl <;> omega)]
  · rw [mget_other (by rcases hh with rfl | rfl <;> assumption)]
  · rcases hh with rfl | rfl
    · right; rw [mget_put hin, ht]
    · left; rw [mget_other (by omega)]
  · rcases hh with rfl | rfl
    · left; rw [mget_other (by omega)]
    · right; rw [mget_put hin, ht]

/-- What a step did. -/
inductive Eff (c : Cfg) (mem' : List Int) (r : Role) (pm pm' : PM) (own own' P P' S S' : List Int) : Prop where
  | quiet (h1 : own' = own) (h2 : P' = P) (h3 : S' = S) (h4 : pm'.pc ≠ .done) (h5 : pm'.pc = pm.pc ∨ pm.pc = .fill ∨ pm.pc = .many)
  | spare (p : Int) (h0 : pm.pc = .spare) (h1 : own = [] ∧ own' = [p]) (h2 : P' = P) (h3 : S = p :: S') (h4 : pm'.pc = .fill)
  | pushed (p : Int) (ts : List Int) (h0 : r = .put ts) (h1 : own = [p] ∧ own' = []) (h2 : P' = p :: P) (h3 : S' = S) (h4 : pm'.pc = .done) (h5 : Content c mem' p ts)
  | taken (p : Int) (h0 : r = .take) (h1 : own = [] ∧ own' = [p]) (h2 : P = p :: P') (h3 : S' = S) (h4 : pm'.pc = .done) (h5 : pm'.p = p) (h6 : p ≠ 0)
  | nothing (h0 : r = .take) (h1 : own = [] ∧ own' = []) (h2 : P = [] ∧ P' = []) (h3 : S' = S) (h4 : pm'.pc = .done) (h5 : pm'.p = 0)
  | backed (q : Int) (h0 : r = .back q) (h1 : own = [q] ∧ own' = []) (h2 : P' = P) (h3 : S' = q :: S) (h4 : pm'.pc = .done) (h5 : pm'.p = q)

/-- A pop's step, of the stack at hd with L. -/
theorem pop_cases {c : Cfg} {mem L : List Int} {hd : Int} {x : SM} (_hg : Good c) (hh : hd = 4 ∨ hd = 5) (hl : 6 ≤ mem.length) (_hU : ∀ y ∈ mem, U y) (hL : Linked (lnk c) mem hd L) (hp : PopSt c mem hd x) (hr : ∀ q ∈ L, 1 ≤ q ∧ q ≤ manyI c) :
    (∃ y, smStep (lnk c) mem x = (mem, y) ∧ PopSt c mem hd y ∧ y.pc ≠ .done) ∨
    (∃ y, smStep (lnk c) mem x = (mem, y) ∧ y.pc = .done ∧ y.item = 0 ∧ L = []) ∨
    (∃ p L' y, L = p :: L' ∧ smStep (lnk c) mem x = (mput mem hd (turnI (mget mem hd) (loI (mget mem (lnk c p)))), y) ∧ y.pc = .done ∧ y.item = p ∧ p ≠ 0) := by
  obtain ⟨pc, head, item, h, link⟩ := x
  obtain ⟨rfl, hp⟩ := hp
  have hin : 0 ≤ head ∧ head < (mem.length : Int) := by rcases hh with e | e <;> simp only at e <;> omega
  cases pc <;> simp only at hp
  · by_cases hz : loI (mget mem head) = 0
    · right; left
      refine ⟨_, rfl, by simp [hz], by simp [hz], ?_⟩
      cases L with
      | nil => rfl
      | cons p L' => exact absurd (hL.1.symm.trans hz) (by have := hr p (by simp); omega)
    · left
      exact ⟨_, rfl, ⟨rfl, by simp [hz]⟩, by simp [hz]⟩
  · left
    exact ⟨_, rfl, ⟨rfl, ⟨hp.1, hp.2.1, hp.2.2, fun _ => rfl⟩⟩, by simp⟩
  · by_cases hm : mget mem head = h
    · right; right
      obtain ⟨p, L', rfl, hpp, hL'⟩ := hL.first (by rw [hm, ← hp.1]; exact hp.2.1)
      have hi : item = p := by rw [hp.1, ← hm, hpp]
      refine ⟨p, L', ⟨.done, head, item, h, link⟩, rfl, ?_, rfl, hi, by rw [← hi]; exact hp.2.1⟩
      simp only [smStep]
      rw [mhit_iff hin, decide_eq_true hm, if_pos rfl, hp.2.2.2 hm, hi, hm]
    · left
      refine ⟨⟨.popHead, head, item, h, link⟩, ?_, ⟨rfl, trivial⟩, by simp⟩
      simp only [smStep]
      rw [mhit_iff hin, decide_eq_false hm]
      rfl

/-- A push's step. -/
theorem push_cases {c : Cfg} {mem : List Int} {hd q : Int} {x : SM} (hg : Good c) (hh : hd = 4 ∨ hd = 5) (hl : (mem.length : Int) = allI c) (hq : 1 ≤ q ∧ q ≤ manyI c) (hp : PushSt c mem hd q x) :
    (∃ y mem', smStep (lnk c) mem x = (mem', y) ∧ (mem' = mem ∨ ∃ v, mem' = mput mem (lnk c q) v) ∧ PushSt c mem' hd q y ∧ y.pc ≠ .done) ∨
    (∃ y, smStep (lnk c) mem x = (mput mem hd (turnI (mget mem hd) q), y) ∧ y.pc = .done ∧ y.item = q ∧ loI (mget mem (lnk c q)) = loI (mget mem hd)) := by
  have hA := allI_bound hg
  have hlq := lnk_big hg hq
  obtain ⟨pc, head, item, h, link⟩ := x
  obtain ⟨rfl, rfl, hp⟩ := hp
  have hin : 0 ≤ head ∧ head < (mem.length : Int) := by rcases hh with e | e <;> simp only at e <;> omega
  simp only at hq hlq
  cases pc <;> simp only at hp
  · left
    exact ⟨_, _, rfl, .inl rfl, ⟨rfl, rfl, rfl, Int.le_refl _⟩, by simp⟩
  · left
    refine ⟨⟨.pushSwap, head, item, h, link⟩, mput mem (lnk c item) link, rfl, .inr ⟨_, rfl⟩, ⟨rfl, rfl, hp.1, ?_, ?_⟩, by simp⟩
    · show hiI h ≤ hiI (mget (mput mem (lnk c item) link) head)
      rw [mget_other (by rcases hh with e | e <;> simp only at e <;> omega)]
      exact hp.2
    · show mget (mput mem (lnk c item) link) (lnk c item) = link
      rw [mget_put (by omega)]
  · by_cases hm : mget mem head = h
    · right
      refine ⟨⟨.done, head, item, h, link⟩, ?_, rfl, rfl, ?_⟩
      · simp only [smStep]
        rw [mhit_iff hin, decide_eq_true hm, if_pos rfl, hm]
      · rw [hp.2.2, hp.1, hm]
        unfold loI; omega
    · left
      refine ⟨⟨.pushHead, head, item, h, link⟩, mem, ?_, .inl rfl, ⟨rfl, rfl, trivial⟩, by simp⟩
      simp only [smStep]
      rw [mhit_iff hin, decide_eq_false hm]
      rfl

theorem sfin_iff {q : SPc} : q.fin = true ↔ q = .done := by cases q <;> simp [SPc.fin]

theorem sfin_no {q : SPc} (h : q ≠ .done) : q.fin = false := by cases q <;> first | rfl | exact absurd rfl h

/-- One's own step. -/
theorem PB.step {c : Cfg} {mem P S : List Int} {r : Role} {pm : PM} {own : List Int} (hg : Good c) (hi : Inv c mem P S) (hU : ∀ x ∈ mem, U x) (hb : PB c mem r pm own) (ht : ∀ ts, r = .put ts → 0 < ts.length ∧ ts.length ≤ 4)
    (ho : ∀ q ∈ own, 1 ≤ q ∧ q ≤ manyI c) (hnd : (own ++ P ++ S).Nodup) (h4 : hiI (mget mem 4) < 4294967295) (h5 : hiI (mget mem 5) < 4294967295) (hS : pm.pc = .spare → S ≠ []) (hd : pm.pc ≠ .done) :
    ∃ own' P' S', Inv c (pmStep c mem pm).1 P' S' ∧ PB c (pmStep c mem pm).1 r (pmStep c mem pm).2 own' ∧ Frm c own mem (pmStep c mem pm).1 ∧ (own' ++ P' ++ S').Perm (own ++ P ++ S) ∧ (pmStep c mem pm).2.tasks = pm.tasks ∧
      Eff c (pmStep c mem pm).1 r pm (pmStep c mem pm).2 own own' P P' S S' := by
  have hA := allI_bound hg
  have hlen := hi.len
  have hl6 : 6 ≤ mem.length := by omega
  have hbig : ∀ q ∈ P ++ S, 16 ≤ lnk c q ∧ lnk c q < allI c := fun q hq => lnk_big hg (hi.rng q hq)
  have hmb := manyI_bound hg
  obtain ⟨pc, tasks, j, p, x⟩ := pm
  cases r with
  | put ts =>
    obtain ⟨rfl, hb⟩ := hb
    obtain ⟨ht1, ht4⟩ := ht _ rfl
    simp only at hb ht1 ht4
    cases pc <;> simp only at hb hd hS
    · exact absurd rfl hd
    · -- spare
      obtain ⟨rfl, rfl, hx⟩ := hb
      rcases pop_cases hg (.inr rfl) hl6 hU hi.spare hx (fun q hq => hi.rng q (by simp [hq])) with ⟨y, e, hy, hn⟩ | ⟨y, e, hy, _, hz⟩ | ⟨q, S', y, rfl, e, hy, hyi, hq0⟩
      · have : pmStep c mem ⟨.spare, tasks, 0, p, x⟩ = (mem, ⟨.spare, tasks, 0, p, y⟩) := by
          simp [pmStep, pmSpare, e, sfin_no hn]
        rw [this]
        exact ⟨[], P, S, hi, ⟨rfl, rfl, rfl, hy⟩, Frm.refl _ _ _, .refl _, rfl, .quiet rfl rfl rfl (by simp) (.inl rfl)⟩
      · exact absurd hz (hS trivial)
      · have hqr := hi.rng q (by simp)
        have : pmStep c mem ⟨.spare, tasks, 0, p, x⟩ = (mput mem 5 (turnI (mget mem 5) (loI (mget mem (lnk c q)))), ⟨.fill, tasks, 0, q, y⟩) := by
          simp [pmStep, pmSpare, e, hy, SPc.fin, hyi, hq0]
        rw [this]
        have hlo := loI_range (mget mem (lnk c q))
        have hperm : (([q] : List Int) ++ P ++ S').Perm ([] ++ P ++ q :: S') := by
          simp only [List.nil_append, List.cons_append]
          exact (List.perm_middle).symm
        refine ⟨[q], P, S', ?_, ⟨rfl, rfl, ht1, fun i hi0 => absurd hi0 (by simp)⟩, Frm.turn hg (.inr rfl) hl6 hlo.1 hlo.2 hU h5, hperm, rfl, .spare q rfl ⟨rfl, rfl⟩ rfl rfl rfl⟩
        refine hi.chg (mput_len _ _ _) (hi.pool.put (by omega) (fun r hr => by have := hbig r (by simp [hr]); omega)) (hi.spare.pop (by omega) (loI_turn hlo.1 hlo.2) (fun r hr => by have := hbig r (by simp [hr]); omega)) [] [q] hperm (fun q hq => by cases hq) hnd
    · -- fill
      obtain ⟨rfl, hj, hw⟩ := hb
      have hp := ho p (by simp)
      have hnp : ∀ q ∈ P ++ S, q ≠ p := fun q hq e => by
        subst e
        rw [List.append_assoc, List.cons_append, List.nodup_cons] at hnd
        exact hnd.1 (by simpa using hq)
      rw [st_fill]
      have htk : pTask c p j = pPack c p (2 + j) := task_is (by omega)
      have hpb := (pack_is hg hp.1 hp.2 (j := 2 + j) (by omega) (by omega)).2
      have hf : Frm c [p] mem (mput mem (pTask c p j) (tasks[j]?.getD 0)) := Frm.put hg hp ⟨2 + j, by omega, by omega, htk⟩
      have hne : ∀ q ∈ P ++ S, lnk c q ≠ pTask c p j := fun q hq => by
        have := hi.rng q hq
        rw [htk]; exact pack_ne hg this.1 this.2 (by omega) (by omega) hp.1 hp.2 (by omega) (by omega) (.inl (hnp q hq))
      have hI : Inv c (mput mem (pTask c p j) (tasks[j]?.getD 0)) P S := hi.chg (mput_len _ _ _) (hi.pool.put (by omega) (fun q hq => hne q (by simp [hq]))) (hi.spare.put (by omega) (fun q hq => hne q (by simp [hq]))) [p] [p] (.refl _) ho hnd
      have hw' : ∀ i : Nat, i < j + 1 → mget (mput mem (pTask c p j) (tasks[j]?.getD 0)) (pTask c p i) = tasks[i]?.getD 0 := fun i hi1 => by
        by_cases e : i = j
        · subst e; rw [mget_put (by omega)]
        · rw [mget_other (by rw [htk, task_is (by omega)]; exact pack_ne hg hp.1 hp.2 (by omega) (by omega) hp.1 hp.2 (by omega) (by omega) (.inr (by omega)))]
          exact hw i (by omega)
      refine ⟨[p], P, S, hI, ⟨rfl, ?_⟩, hf, .refl _, rfl, .quiet rfl rfl rfl ?_ (.inr (.inl rfl))⟩
      · by_cases e : j + 1 = tasks.length
        · simp only [if_pos e]
          exact ⟨trivial, fun i hi1 => hw' i (by omega)⟩
        · simp only [if_neg e]
          exact ⟨trivial, by omega, hw'⟩
      · simp only; split <;> simp
    · -- many
      obtain ⟨rfl, hw⟩ := hb
      have hp := ho p (by simp)
      have hnp : ∀ q ∈ P ++ S, q ≠ p := fun q hq e => by
        subst e
        rw [List.append_assoc, List.cons_append, List.nodup_cons] at hnd
        exact hnd.1 (by simpa using hq)
      rw [st_many]
      have hpb := (pack_is hg hp.1 hp.2 (j := 0) (by omega) (by omega)).2
      have hf : Frm c [p] mem (mput mem (pPack c p 0) tasks.length) := Frm.put hg hp ⟨0, by omega, by omega, rfl⟩
      have hne : ∀ q ∈ P ++ S, lnk c q ≠ pPack c p 0 := fun q hq => by
        have := hi.rng q hq
        exact pack_ne hg this.1 this.2 (by omega) (by omega) hp.1 hp.2 (by omega) (by omega) (.inl (hnp q hq))
      have hI : Inv c (mput mem (pPack c p 0) tasks.length) P S := hi.chg (mput_len _ _ _) (hi.pool.put (by omega) (fun q hq => hne q (by simp [hq]))) (hi.spare.put (by omega) (fun q hq => hne q (by simp [hq]))) [p] [p] (.refl _) ho hnd
      refine ⟨[p], P, S, hI, ⟨rfl, rfl, ⟨?_, fun i hi1 => ?_⟩, ⟨rfl, rfl, trivial⟩⟩, hf, .refl _, rfl, .quiet rfl rfl rfl (by simp) (.inr (.inr rfl))⟩
      · rw [mget_put (by omega)]
      · have hi2 : i < tasks.length := hi1
        rw [mget_other (by rw [task_is (by omega)]; exact pack_ne hg hp.1 hp.2 (by omega) (by omega) hp.1 hp.2 (by omega) (by omega) (.inr (by omega)))]
        exact hw i hi1
    · -- last
      obtain ⟨rfl, hc, hx⟩ := hb
      have hp := ho p (by simp)
      have hlp := lnk_big hg hp
      have hnp : ∀ q ∈ P ++ S, q ≠ p := fun q hq e => by
        subst e
        rw [List.append_assoc, List.cons_append, List.nodup_cons] at hnd
        exact hnd.1 (by simpa using hq)
      have hne : ∀ q ∈ P ++ S, lnk c q ≠ lnk c p := fun q hq => by
        have := hi.rng q hq
        exact pack_ne hg this.1 this.2 (by omega) (by omega) hp.1 hp.2 (by omega) (by omega) (.inl (hnp q hq))
      rcases push_cases hg (.inl rfl) hlen hp hx with ⟨y, mem', e, hm, hy, hn⟩ | ⟨y, e, hy, hyi, hlk⟩
      · have : pmStep c mem ⟨.last, tasks, j, p, x⟩ = (mem', ⟨.last, tasks, j, p, y⟩) := by
          simp [pmStep, pmLast, e, sfin_no hn]
        rw [this]
        rcases hm with rfl | ⟨v, rfl⟩
        · exact ⟨[p], P, S, hi, ⟨rfl, rfl, hc, hy⟩, Frm.refl _ _ _, .refl _, rfl, .quiet rfl rfl rfl (by simp) (.inl rfl)⟩
        · refine ⟨[p], P, S, hi.chg (mput_len _ _ _) (hi.pool.put (by omega) (fun q hq => hne q (by simp [hq]))) (hi.spare.put (by omega) (fun q hq => hne q (by simp [hq]))) [p] [p] (.refl _) ho hnd, ⟨rfl, rfl, ?_, hy⟩, Frm.put hg hp ⟨1, by omega, by omega, rfl⟩, .refl _, rfl, .quiet rfl rfl rfl (by simp) (.inl rfl)⟩
          exact hc.frame ht4 (fun i i0 i1 i2 => by rw [mget_other (pack_ne hg hp.1 hp.2 i0 i1 hp.1 hp.2 (by omega) (by omega) (.inr i2))])
      · have : pmStep c mem ⟨.last, tasks, j, p, x⟩ = (mput mem 4 (turnI (mget mem 4) p), ⟨.done, tasks, j, p, y⟩) := by
          simp [pmStep, pmLast, e, hy, SPc.fin, hyi]
        rw [this]
        have hperm : (([] : List Int) ++ (p :: P) ++ S).Perm ([p] ++ P ++ S) := .refl _
        have hc' : Content c (mput mem 4 (turnI (mget mem 4) p)) p tasks := hc.frame ht4 (fun i i0 i1 _ => by have := (pack_is hg hp.1 hp.2 i0 i1).2; rw [mget_other (by omega)])
        refine ⟨[], p :: P, S, ?_, ⟨rfl, rfl⟩, Frm.turn hg (.inl rfl) hl6 (by omega) (by omega) hU h4, hperm, rfl, .pushed p tasks rfl ⟨rfl, rfl⟩ rfl rfl rfl hc'⟩
        refine hi.chg (mput_len _ _ _) (hi.pool.push (by omega) (loI_turn (by omega) (by omega)) hlk (fun q hq => ?_)) (hi.spare.put (by omega) (fun q hq => by have := hbig q (by simp [hq]); omega)) [p] [] hperm ho hnd
        rcases List.mem_cons.1 hq with rfl | h
        · omega
        · have := hbig q (by simp [h]); omega
  | take =>
    simp only [PB] at hb
    cases pc <;> simp only at hb hd hS
    · exact absurd rfl hd
    · -- last
      obtain ⟨rfl, hx⟩ := hb
      rcases pop_cases hg (.inl rfl) hl6 hU hi.pool hx (fun q hq => hi.rng q (by simp [hq])) with ⟨y, e, hy, hn⟩ | ⟨y, e, hy, hyi, rfl⟩ | ⟨q, P', y, rfl, e, hy, hyi, hq0⟩
      · have : pmStep c mem ⟨.last, tasks, j, p, x⟩ = (mem, ⟨.last, tasks, j, p, y⟩) := by
          simp [pmStep, pmLast, e, sfin_no hn]
        rw [this]
        exact ⟨[], P, S, hi, ⟨rfl, hy⟩, Frm.refl _ _ _, .refl _, rfl, .quiet rfl rfl rfl (by simp) (.inl rfl)⟩
      · have : pmStep c mem ⟨.last, tasks, j, p, x⟩ = (mem, ⟨.done, tasks, j, 0, y⟩) := by
          simp [pmStep, pmLast, e, hy, SPc.fin, hyi]
        rw [this]
        exact ⟨[], [], S, hi, rfl, Frm.refl _ _ _, .refl _, rfl, .nothing rfl ⟨rfl, rfl⟩ ⟨rfl, rfl⟩ rfl rfl rfl⟩
      · have : pmStep c mem ⟨.last, tasks, j, p, x⟩ = (mput mem 4 (turnI (mget mem 4) (loI (mget mem (lnk c q)))), ⟨.done, tasks, j, q, y⟩) := by
          simp [pmStep, pmLast, e, hy, SPc.fin, hyi]
        rw [this]
        have hlo := loI_range (mget mem (lnk c q))
        have hperm : (([q] : List Int) ++ P' ++ S).Perm ([] ++ q :: P' ++ S) := .refl _
        refine ⟨[q], P', S, ?_, by simp [PB, hq0], Frm.turn hg (.inl rfl) hl6 hlo.1 hlo.2 hU h4, hperm, rfl, .taken q rfl ⟨rfl, rfl⟩ rfl rfl rfl rfl hq0⟩
        refine hi.chg (mput_len _ _ _) (hi.pool.pop (by omega) (loI_turn hlo.1 hlo.2) (fun r hr => by have := hbig r (by simp [hr]); omega)) (hi.spare.put (by omega) (fun r hr => by have := hbig r (by simp [hr]); omega)) [] [q] hperm (fun q hq => by cases hq) hnd
  | back q =>
    simp only [PB] at hb
    cases pc <;> simp only at hb hd hS
    · exact absurd rfl hd
    · obtain ⟨rfl, hx⟩ := hb
      have hp := ho q (by simp)
      have hlp := lnk_big hg hp
      have hnp : ∀ r ∈ P ++ S, r ≠ q := fun r hr e => by
        subst e
        rw [List.append_assoc, List.cons_append, List.nodup_cons] at hnd
        exact hnd.1 (by simpa using hr)
      have hne : ∀ r ∈ P ++ S, lnk c r ≠ lnk c q := fun r hr => by
        have := hi.rng r hr
        exact pack_ne hg this.1 this.2 (by omega) (by omega) hp.1 hp.2 (by omega) (by omega) (.inl (hnp r hr))
      rcases push_cases hg (.inr rfl) hlen hp hx with ⟨y, mem', e, hm, hy, hn⟩ | ⟨y, e, hy, hyi, hlk⟩
      · have : pmStep c mem ⟨.last, tasks, j, p, x⟩ = (mem', ⟨.last, tasks, j, p, y⟩) := by
          simp [pmStep, pmLast, e, sfin_no hn]
        rw [this]
        rcases hm with rfl | ⟨v, rfl⟩
        · exact ⟨[q], P, S, hi, ⟨rfl, hy⟩, Frm.refl _ _ _, .refl _, rfl, .quiet rfl rfl rfl (by simp) (.inl rfl)⟩
        · exact ⟨[q], P, S, hi.chg (mput_len _ _ _) (hi.pool.put (by omega) (fun r hr => hne r (by simp [hr]))) (hi.spare.put (by omega) (fun r hr => hne r (by simp [hr]))) [q] [q] (.refl _) ho hnd, ⟨rfl, hy⟩, Frm.put hg hp ⟨1, by omega, by omega, rfl⟩, .refl _, rfl, .quiet rfl rfl rfl (by simp) (.inl rfl)⟩
      · have : pmStep c mem ⟨.last, tasks, j, p, x⟩ = (mput mem 5 (turnI (mget mem 5) q), ⟨.done, tasks, j, q, y⟩) := by
          simp [pmStep, pmLast, e, hy, SPc.fin, hyi]
        rw [this]
        have hperm : (([] : List Int) ++ P ++ q :: S).Perm ([q] ++ P ++ S) := by
          simp only [List.nil_append, List.cons_append]
          exact List.perm_middle
        refine ⟨[], P, q :: S, ?_, ⟨rfl, rfl⟩, Frm.turn hg (.inr rfl) hl6 (by omega) (by omega) hU h5, hperm, rfl, .backed q rfl ⟨rfl, rfl⟩ rfl rfl rfl rfl⟩
        refine hi.chg (mput_len _ _ _) (hi.pool.put (by omega) (fun r hr => by have := hbig r (by simp [hr]); omega)) (hi.spare.push (by omega) (loI_turn (by omega) (by omega)) hlk (fun r hr => ?_)) [q] [] hperm ho hnd
        rcases List.mem_cons.1 hr with rfl | h
        · omega
        · have := hbig r (by simp [h]); omega

end Go.Proofs.Ytfbcadknimfhjaa
