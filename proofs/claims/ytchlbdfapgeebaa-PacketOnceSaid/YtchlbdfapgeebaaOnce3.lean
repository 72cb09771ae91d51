/- Three that put packets, take them and put them back, as plain numbers: what holds between two steps. No program. -/
import Derived.Test.YtchlbdfapgeebaaOnce2
namespace Go.Proofs.Ytchlbdfapgeebaa
open Go.RowKit

def upd {α : Type} (f : Nat → α) (k : Nat) (x : α) : Nat → α := fun i => if i = k then x else f i

def sum3 {α : Type} (F : α → Nat) (f : Nat → α) : Nat := F (f 0) + F (f 1) + F (f 2)

theorem upd_same {α : Type} (f : Nat → α) (k : Nat) (x : α) : upd f k x k = x := if_pos rfl

theorem upd_other {α : Type} {f : Nat → α} {k j : Nat} {x : α} (h : j ≠ k) : upd f k x j = f j := if_neg h

theorem sum3_upd {α : Type} (F : α → Nat) (f : Nat → α) {k : Nat} (x : α) (hk : k < 3) : sum3 F (upd f k x) + F (f k) = sum3 F f + F x := by
  have : k = 0 ∨ k = 1 ∨ k = 2 := by omega
  rcases this with rfl | rfl | rfl <;> simp [sum3, upd] <;> omega

theorem sum3_le {α : Type} (F : α → Nat) (f : Nat → α) {k : Nat} (hk : k < 3) : F (f k) ≤ sum3 F f := by
  have : k = 0 ∨ k = 1 ∨ k = 2 := by omega
  rcases this with rfl | rfl | rfl <;> simp [sum3] <;> omega

theorem sum3_two {α : Type} (F : α → Nat) (f : Nat → α) {k j : Nat} (hk : k < 3) (hj : j < 3) (hn : j ≠ k) : F (f k) + F (f j) ≤ sum3 F f := by
  have h1 : k = 0 ∨ k = 1 ∨ k = 2 := by omega
  have h2 : j = 0 ∨ j = 1 ∨ j = 2 := by omega
  rcases h1 with rfl | rfl | rfl <;> rcases h2 with rfl | rfl | rfl <;> simp [sum3] at * <;> omega

theorem sum3_bound {α : Type} (F : α → Nat) (f : Nat → α) (m : Nat) (h : ∀ k, k < 3 → F (f k) ≤ m) : sum3 F f ≤ 3 * m := by
  have := h 0 (by omega)
  have := h 1 (by omega)
  have := h 2 (by omega)
  unfold sum3; omega

/-- What one of the three does: its machine, what kind it is of, and the packet that it has. -/
structure Act where
  job : Option PM
  kind : Int
  has : Int

def Act.role (a : Act) (pm : PM) : Role := if a.kind = 2 then .back a.has else if a.kind = 0 then .put pm.tasks else .take

/-- The tasks that are being put. -/
def Act.fl (a : Act) : List Int := match a.job with
  | some pm => if a.kind = 0 then pm.tasks else []
  | none => []

/-- Turns that are to come of what is put. -/
def Act.tw (a : Act) : Nat := match a.job with
  | some pm => if a.kind = 0 then pm.turns else 0
  | none => 0

/-- All that there is. -/
structure OG where
  mem : List Int
  put : Int
  n : Int
  seen : List Int
  act : Nat → Act

def taskO (c : Cfg) (mem : List Int) (p : Int) : Int := mget mem (pTask c p 0)

/-- One who does nothing begins. -/
def oBegin (c : Cfg) (acts : List Int) (k : Nat) (g : OG) : OG :=
  if 0 < (g.act k).has then { g with n := g.n + 1, act := upd g.act k ⟨some (back0 c (g.act k).has), 2, (g.act k).has⟩ }
  else if (acts[((g.n + 1) % acts.length).toNat]?.getD 0) % 2 = 0 ∧ g.put < manyI c - 3 then { g with n := g.n + 1, put := g.put + 1, act := upd g.act k ⟨some (put0 [g.put + 1]), 0, (g.act k).has⟩ }
  else { g with n := g.n + 1, act := upd g.act k ⟨some take0, 1, (g.act k).has⟩ }

/-- One who is finished. -/
def oEnd (c : Cfg) (k : Nat) (g : OG) (p : Int) : OG :=
  if (g.act k).kind = 2 then { g with act := upd g.act k ⟨none, 2, 0⟩ }
  else if (g.act k).kind = 1 ∧ 0 < p then { g with seen := g.seen.set (taskO c g.mem p).toNat ((g.seen[(taskO c g.mem p).toNat]?.getD 0) + 1), act := upd g.act k ⟨none, 1, p⟩ }
  else { g with act := upd g.act k ⟨none, (g.act k).kind, (g.act k).has⟩ }

def oTurn (c : Cfg) (k : Nat) (g : OG) : OG := match (g.act k).job with
  | none => g
  | some pm => if (pmStep c g.mem pm).2.pc.fin then oEnd c k { g with mem := (pmStep c g.mem pm).1 } (pmStep c g.mem pm).2.p
    else { g with mem := (pmStep c g.mem pm).1, act := upd g.act k { g.act k with job := some (pmStep c g.mem pm).2 } }

/-- What one has. -/
def OAct (c : Cfg) (mem : List Int) (a : Act) (own : List Int) : Prop :=
  (a.kind = 0 ∨ a.kind = 1 ∨ a.kind = 2) ∧ own.length ≤ 1 ∧ match a.job with
  | none => 0 ≤ a.has ∧ own = (if 0 < a.has then [a.has] else [])
  | some pm => pm.pc ≠ .done ∧ PB c mem (a.role pm) pm own ∧ (a.kind ≠ 2 → a.has = 0) ∧ (a.kind = 0 → pm.tasks.length = 1) ∧ pm.tasks.length ≤ 4

structure OInv (c : Cfg) (i : Int) (g : OG) (P S : List Int) (own : Nat → List Int) : Prop where
  inv : Inv c g.mem P S
  all : ∀ x ∈ g.mem, U x
  h4 : hiI (mget g.mem 4) ≤ i
  h5 : hiI (mget g.mem 5) ≤ i
  cnt : ∀ q, sum3 (List.count q) own + List.count q P + List.count q S = if 1 ≤ q ∧ q ≤ manyI c then 1 else 0
  len : sum3 List.length own + P.length + S.length = (manyI c).toNat
  own : ∀ k, k < 3 → OAct c g.mem (g.act k) (own k)
  pool : ∀ p ∈ P, Content c g.mem p [taskO c g.mem p]
  seenl : g.seen.length = 400
  once : ∀ t : Nat, 1 ≤ t → t < 400 → (g.seen[t]?.getD 0) + ((List.count (t : Int) (P.map (taskO c g.mem)) + sum3 (fun a => List.count (t : Int) a.fl) g.act : Nat) : Int) = if (t : Int) ≤ g.put then 1 else 0
  rngP : ∀ p ∈ P, 1 ≤ taskO c g.mem p ∧ taskO c g.mem p ≤ g.put
  rngF : ∀ k, k < 3 → ∀ t ∈ (g.act k).fl, 1 ≤ t ∧ t ≤ g.put
  num : (P.length : Int) + (sum3 (fun a => a.fl.length) g.act : Nat) ≤ g.put
  put : g.put = 0 ∨ g.put ≤ manyI c - 3
  rate : 2 * g.put ≤ i + (sum3 Act.tw g.act : Nat)
  n0 : 0 ≤ g.n

section
variable {c : Cfg} {i : Int} {g : OG} {P S : List Int} {own : Nat → List Int}

theorem OInv.putge (h : OInv c i g P S own) : 0 ≤ g.put := by have := h.num; omega

theorem OInv.later {j : Int} (h : OInv c i g P S own) (hij : i ≤ j) : OInv c j g P S own :=
  { h with h4 := by have := h.h4; omega, h5 := by have := h.h5; omega, rate := by have := h.rate; omega }

theorem Act.tw_le (a : Act) : a.tw ≤ 2 := by
  unfold Act.tw
  split
  · split
    · exact PM.turns_le _
    · omega
  · omega

theorem OInv.putlt (h : OInv c i g P S own) (hi : i ≤ 700) : g.put < 400 := by
  have := sum3_bound Act.tw g.act 2 (fun k _ => Act.tw_le _)
  have := h.rate
  omega

theorem OInv.rng (h : OInv c i g P S own) {k : Nat} (hk : k < 3) : ∀ q ∈ own k, 1 ≤ q ∧ q ≤ manyI c := fun q hq => by
  have h1 := h.cnt q
  have h2 := sum3_le (List.count q) own hk
  have h3 := List.count_pos_iff.2 hq
  split at h1
  · next e => exact e
  · omega

theorem OInv.apart (h : OInv c i g P S own) {k : Nat} (hk : k < 3) : ∀ q ∈ P ++ S, q ∉ own k := fun q hq e => by
  have h1 := h.cnt q
  have h2 := sum3_le (List.count q) own hk
  have h3 := List.count_pos_iff.2 e
  have h4 : 0 < List.count q P + List.count q S := by
    rw [← List.count_append]; exact List.count_pos_iff.2 hq
  split at h1 <;> omega

theorem OInv.apart2 (h : OInv c i g P S own) {k j : Nat} (hk : k < 3) (hj : j < 3) (hn : j ≠ k) : ∀ q ∈ own j, q ∉ own k := fun q hq e => by
  have h1 := h.cnt q
  have h2 := sum3_two (List.count q) own hk hj hn
  have h3 := List.count_pos_iff.2 e
  have h4 := List.count_pos_iff.2 hq
  split at h1 <;> omega

theorem OInv.nd (h : OInv c i g P S own) {k : Nat} (hk : k < 3) : (own k ++ P ++ S).Nodup := by
  rw [List.nodup_iff_count]
  intro q
  have h1 := h.cnt q
  have h2 := sum3_le (List.count q) own hk
  rw [List.count_append, List.count_append]
  split at h1 <;> omega

/-- Who does nothing begins. -/
theorem OInv.begin (_hg : Good c) (h : OInv c i g P S own) (acts : List Int) {k : Nat} (hk : k < 3) (hj : (g.act k).job = none) : OInv c i (oBegin c acts k g) P S own := by
  obtain ⟨ho1, ho2, ho3⟩ := h.own k hk
  rw [hj] at ho3
  simp only at ho3
  have hr := h.rng hk
  have fl0 : (g.act k).fl = [] := by unfold Act.fl; rw [hj]
  have tw0 : (g.act k).tw = 0 := by unfold Act.tw; rw [hj]
  have hn0 := h.n0
  have own' : ∀ a, OAct c g.mem a (own k) → ∀ m, m < 3 → OAct c g.mem (upd g.act k a m) (own m) := fun a ha m hm => by
    by_cases e : m = k
    · subst e; rw [upd_same]; exact ha
    · rw [upd_other e]; exact h.own m hm
  have quiet : ∀ a : Act, a.fl = [] → a.tw = 0 → OAct c g.mem a (own k) → OInv c i { g with n := g.n + 1, act := upd g.act k a } P S own := fun a h1 h2 h3 => by
    have e1 : ∀ t : Nat, sum3 (fun a => List.count (t : Int) a.fl) (upd g.act k a) = sum3 (fun a => List.count (t : Int) a.fl) g.act := fun t => by
      have := sum3_upd (fun a => List.count (t : Int) a.fl) g.act a hk
      simp only [h1, fl0, List.count_nil] at this
      exact this
    have e2 : sum3 (fun a => a.fl.length) (upd g.act k a) = sum3 (fun a => a.fl.length) g.act := by
      have := sum3_upd (fun a => a.fl.length) g.act a hk
      simp only [h1, fl0, List.length_nil] at this
      exact this
    have e3 : sum3 Act.tw (upd g.act k a) = sum3 Act.tw g.act := by
      have := sum3_upd Act.tw g.act a hk
      rw [h2, tw0] at this
      exact this
    refine ⟨h.inv, h.all, h.h4, h.h5, h.cnt, h.len, own' a h3, h.pool, h.seenl, fun t t0 t1 => ?_, h.rngP, fun m hm t ht => ?_, ?_, h.put, ?_, (show (0 : Int) ≤ g.n + 1 by omega)⟩
    · show (g.seen[t]?.getD 0) + ((List.count (t : Int) (P.map (taskO c g.mem)) + sum3 (fun a => List.count (t : Int) a.fl) (upd g.act k a) : Nat) : Int) = _
      rw [e1]; exact h.once t t0 t1
    · by_cases e : m = k
      · subst e
        simp only [upd_same, h1] at ht
        cases ht
      · simp only [upd_other e] at ht
        exact h.rngF m hm t ht
    · show (P.length : Int) + (sum3 (fun a => a.fl.length) (upd g.act k a) : Nat) ≤ g.put
      rw [e2]; exact h.num
    · show 2 * g.put ≤ i + (sum3 Act.tw (upd g.act k a) : Nat)
      rw [e3]; exact h.rate
  unfold oBegin
  by_cases hh : 0 < (g.act k).has
  · rw [if_pos hh]
    rw [if_pos hh] at ho3
    have hq := hr (g.act k).has (by rw [ho3.2]; simp)
    refine quiet _ (by simp [Act.fl]) (by simp [Act.tw]) ⟨.inr (.inr rfl), ho2, ?_⟩
    have hb : back0 c (g.act k).has = ⟨.last, [], 0, 0, ⟨.pushHead, 5, (g.act k).has, 0, 0⟩⟩ := if_pos hq
    simp only [hb]
    refine ⟨by simp, ?_, by simp, by simp, by simp⟩
    simp only [Act.role, if_true, PB]
    exact ⟨ho3.2, rfl, rfl, trivial⟩
  · rw [if_neg hh]
    rw [if_neg hh] at ho3
    have has0 : (g.act k).has = 0 := by omega
    by_cases ha : (acts[((g.n + 1) % acts.length).toNat]?.getD 0) % 2 = 0 ∧ g.put < manyI c - 3
    · rw [if_pos ha]
      have hp0 := h.putge
      have hb : put0 [g.put + 1] = ⟨.spare, [g.put + 1], 0, 0, ⟨.popHead, 5, 0, 0, 0⟩⟩ := rfl
      have hfl : (⟨some (put0 [g.put + 1]), 0, (g.act k).has⟩ : Act).fl = [g.put + 1] := rfl
      have htw : (⟨some (put0 [g.put + 1]), 0, (g.act k).has⟩ : Act).tw = 2 := rfl
      have hA : OAct c g.mem ⟨some (put0 [g.put + 1]), 0, (g.act k).has⟩ (own k) := by
        refine ⟨.inl rfl, ho2, ?_⟩
        simp only [hb]
        refine ⟨by simp, ?_, fun _ => has0, fun _ => rfl, by simp⟩
        simp only [Act.role, PB]
        exact ⟨rfl, ho3.2, trivial, rfl, trivial⟩
      generalize (⟨some (put0 [g.put + 1]), 0, (g.act k).has⟩ : Act) = a at hfl htw hA ⊢
      refine ⟨h.inv, h.all, h.h4, h.h5, h.cnt, h.len, own' a hA, h.pool, h.seenl, fun t t0 t1 => ?_, fun p hp => ?_, fun m hm t ht => ?_, ?_, .inr (show g.put + 1 ≤ _ by omega), ?_, (show (0 : Int) ≤ g.n + 1 by omega)⟩
      · show (g.seen[t]?.getD 0) + ((List.count (t : Int) (P.map (taskO c g.mem)) + sum3 (fun a => List.count (t : Int) a.fl) (upd g.act k a) : Nat) : Int) = if (t : Int) ≤ g.put + 1 then 1 else 0
        have e1 := sum3_upd (fun a => List.count (t : Int) a.fl) g.act a hk
        have e2 := h.once t t0 t1
        simp only [hfl, fl0, List.count_nil, List.count_cons, Nat.add_zero, Nat.zero_add] at e1
        by_cases e : (t : Int) = g.put + 1
        · rw [if_pos (by omega)]
          rw [if_neg (by omega)] at e2
          rw [if_pos (by simpa using e.symm)] at e1
          omega
        · rw [if_neg (by simpa using fun x => e (Eq.symm x))] at e1
          by_cases e' : (t : Int) ≤ g.put
          · rw [if_pos (by omega)]
            rw [if_pos e'] at e2
            omega
          · rw [if_neg (by omega)]
            rw [if_neg e'] at e2
            omega
      · have := h.rngP p hp
        exact ⟨this.1, Int.le_trans this.2 (by show g.put ≤ g.put + 1; omega)⟩
      · show 1 ≤ t ∧ t ≤ g.put + 1
        by_cases e : m = k
        · subst e
          simp only [upd_same, hfl, List.mem_singleton] at ht
          omega
        · simp only [upd_other e] at ht
          have := h.rngF m hm t ht
          omega
      · show (P.length : Int) + (sum3 (fun a => a.fl.length) (upd g.act k a) : Nat) ≤ g.put + 1
        have e1 := sum3_upd (fun a => a.fl.length) g.act a hk
        have e2 := h.num
        simp only [hfl, fl0, List.length_nil, List.length_cons] at e1
        omega
      · show 2 * (g.put + 1) ≤ i + (sum3 Act.tw (upd g.act k a) : Nat)
        have e1 := sum3_upd Act.tw g.act a hk
        have e2 := h.rate
        omega
    · rw [if_neg ha]
      refine quiet _ (by simp [Act.fl]) (by simp [Act.tw]) ⟨.inr (.inl rfl), ho2, ?_⟩
      refine ⟨by simp [take0], ?_, fun _ => has0, by simp, by simp [take0]⟩
      simp only [Act.role, PB, take0]
      exact ⟨ho3.2, rfl, trivial⟩

end

end Go.Proofs.Ytchlbdfapgeebaa
