/- Three that put packets, take them and put them back, as plain numbers: what is at first, and what is in the end. No program. -/
import Derived.Test.YtchlbdfapgeebaaOnce5
namespace Go.Proofs.Ytchlbdfapgeebaa
open Go.RowKit

theorem upL_all {n : Nat} {p q : Int} (h1 : p ≤ q) (h2 : q < p + n) : q ∈ upL p n := by
  induction n generalizing p with
  | zero => omega
  | succ n ih =>
    rw [upL]
    by_cases e : q = p
    · subst e; simp
    · exact List.mem_cons_of_mem _ (ih (by omega) (by omega))

theorem first_heads {c : Cfg} (hg : Good c) : mget (firstL c) 4 = 0 ∧ mget (firstL c) 5 = 1 := by
  have hmb := manyI_bound hg
  have hn := nN_bound hg
  obtain ⟨k4, k5, _⟩ := linkTo_get hg (manyI c - 1).toNat (by omega)
  have fg := fun a ha => freeTo_get hg (nN c - 1) (by omega) a ha
  unfold firstL
  exact ⟨by rw [fg 4 (.inl (by omega)), k4], by rw [fg 5 (.inl (by omega)), k5]⟩

/-- All that there is at first. -/
def og0 (c : Cfg) : OG := ⟨firstL c, 0, 0, List.replicate 400 0, fun _ => ⟨none, 0, 0⟩⟩

theorem OInv.init {c : Cfg} (hg : Good c) (hall : ∀ x ∈ firstL c, U x) : OInv c 0 (og0 c) [] (upL 1 (manyI c).toNat) (fun _ => []) := by
  obtain ⟨e4, e5⟩ := first_heads hg
  have hmb := manyI_bound hg
  refine ⟨seqFirst hg, hall, ?_, ?_, fun q => ?_, ?_, fun k _ => ⟨.inl rfl, Nat.zero_le _, ⟨Int.le_refl _, rfl⟩⟩, fun p hp => (by cases hp), List.length_replicate, fun t t0 t1 => ?_, fun p hp => (by cases hp), fun k _ t ht => (by cases ht), Int.le_refl _, .inl rfl, Int.le_refl _, Int.le_refl _⟩
  · show hiI (mget (firstL c) 4) ≤ 0
    rw [e4]; unfold hiI; omega
  · show hiI (mget (firstL c) 5) ≤ 0
    rw [e5]; unfold hiI; omega
  · simp only [sum3, List.count_nil]
    by_cases h : 1 ≤ q ∧ q ≤ manyI c
    · rw [if_pos h, (upL_nodup 1 _).count, if_pos (upL_all h.1 (by omega))]
    · rw [if_neg h, (upL_nodup 1 _).count, if_neg (fun e => by have := upL_mem _ e; omega)]
  · simp [sum3, upL_len]
  · have e : ¬ ((t : Int) ≤ (og0 c).put) := by show ¬ ((t : Int) ≤ 0); omega
    rw [if_neg e]
    show ((List.replicate 400 (0 : Int))[t]?.getD 0) + ((0 : Nat) : Int) = 0
    rw [List.getElem?_replicate, if_pos t1]
    rfl

section
variable {c : Cfg} {k : Nat} {g : OG} {pm : PM}

theorem oTurn_more (hj : (g.act k).job = some pm) (hf : (pmStep c g.mem pm).2.pc.fin = false) :
    oTurn c k g = { g with mem := (pmStep c g.mem pm).1, act := upd g.act k { g.act k with job := some (pmStep c g.mem pm).2 } } := by
  unfold oTurn; rw [hj]; simp [hf]

theorem oTurn_back (hj : (g.act k).job = some pm) (hf : (pmStep c g.mem pm).2.pc.fin = true) (hk : (g.act k).kind = 2) :
    oTurn c k g = { g with mem := (pmStep c g.mem pm).1, act := upd g.act k ⟨none, 2, 0⟩ } := by
  unfold oTurn oEnd; rw [hj]; simp [hf, hk]

theorem oTurn_got (hj : (g.act k).job = some pm) (hf : (pmStep c g.mem pm).2.pc.fin = true) (hk : (g.act k).kind = 1) (hp : 0 < (pmStep c g.mem pm).2.p) :
    oTurn c k g = { g with mem := (pmStep c g.mem pm).1, seen := g.seen.set (taskO c (pmStep c g.mem pm).1 (pmStep c g.mem pm).2.p).toNat ((g.seen[(taskO c (pmStep c g.mem pm).1 (pmStep c g.mem pm).2.p).toNat]?.getD 0) + 1), act := upd g.act k ⟨none, 1, (pmStep c g.mem pm).2.p⟩ } := by
  unfold oTurn oEnd; rw [hj]; simp [hf, hk, hp]

theorem oTurn_none (hj : (g.act k).job = some pm) (hf : (pmStep c g.mem pm).2.pc.fin = true) (hk : (g.act k).kind ≠ 2) (hp : ¬ ((g.act k).kind = 1 ∧ 0 < (pmStep c g.mem pm).2.p)) :
    oTurn c k g = { g with mem := (pmStep c g.mem pm).1, act := upd g.act k ⟨none, (g.act k).kind, (g.act k).has⟩ } := by
  unfold oTurn oEnd; rw [hj]; simp only [hf, if_true]
  rw [if_neg hk, if_neg hp]

theorem oTurn_put : (oTurn c k g).put = g.put := by
  unfold oTurn oEnd
  split
  · rfl
  · split
    · split
      · rfl
      · split <;> rfl
    · rfl

theorem oTurn_n : (oTurn c k g).n = g.n := by
  unfold oTurn oEnd
  split
  · rfl
  · split
    · split
      · rfl
      · split <;> rfl
    · rfl

theorem oTurn_nil (hj : (g.act k).job = none) : oTurn c k g = g := by unfold oTurn; rw [hj]

theorem oBegin_back {acts : List Int} (h : 0 < (g.act k).has) : oBegin c acts k g = { g with n := g.n + 1, act := upd g.act k ⟨some (back0 c (g.act k).has), 2, (g.act k).has⟩ } := if_pos h

theorem oBegin_put {acts : List Int} (h : ¬ 0 < (g.act k).has) (ha : (acts[((g.n + 1) % acts.length).toNat]?.getD 0) % 2 = 0 ∧ g.put < manyI c - 3) : oBegin c acts k g = { g with n := g.n + 1, put := g.put + 1, act := upd g.act k ⟨some (put0 [g.put + 1]), 0, (g.act k).has⟩ } := by
  unfold oBegin; rw [if_neg h, if_pos ha]

theorem oBegin_take {acts : List Int} (h : ¬ 0 < (g.act k).has) (ha : ¬ ((acts[((g.n + 1) % acts.length).toNat]?.getD 0) % 2 = 0 ∧ g.put < manyI c - 3)) : oBegin c acts k g = { g with n := g.n + 1, act := upd g.act k ⟨some take0, 1, (g.act k).has⟩ } := by
  unfold oBegin; rw [if_neg h, if_neg ha]

theorem oBegin_n {acts : List Int} : (oBegin c acts k g).n = g.n + 1 := by
  unfold oBegin
  split
  · rfl
  · split <;> rfl

end

/-- How many steps each has made since the L-th. -/
def uO (L i : Nat) (k : Nat) : Nat := (i + 2 - k) / 3 - (L + 2 - k) / 3

theorem uO_start (L k : Nat) : uO L L k = 0 := by unfold uO; omega

theorem uO_end (L k : Nat) (hk : k < 3) : uO L (L + 90) k = 30 := by unfold uO; omega

theorem FInv.congr {u v : Nat → Nat} {g : OG} (h : FInv u g) (e : ∀ k, k < 3 → v k = u k) : FInv v g := fun k hk pm hj => by
  rw [e k hk]; exact h k hk pm hj

theorem uO_step {L i k : Nat} (hL : L ≤ i) (hk : k = i % 3) (j : Nat) (hj : j < 3) : uO L (i + 1) j = upd (uO L i) k (uO L i k + 1) j := by
  by_cases e : j = k
  · subst e
    rw [upd_same]
    unfold uO; omega
  · rw [upd_other e]
    unfold uO; omega

theorem flat_one (f : Int → Int) (L : List Int) : (L.flatMap fun p => [f p]) = L.map f := by
  induction L with
  | nil => rfl
  | cons p L ih => rw [List.flatMap_cons, List.map_cons, ih]; rfl

theorem FInv.next {c : Cfg} {g : OG} {P S : List Int} {own : Nat → List Int} {L i k : Nat} (hg : Good c) (h : OInv c i g P S own) (hF : FInv (uO L i) g) (hL : L ≤ i) (hk : k = i % 3) : FInv (uO L (i + 1)) (oTurn c k g) :=
  (hF.turn hg h (by omega)).congr (fun j hj => uO_step hL hk j hj)

theorem count_le_len (L : List Int) (t : Int) : List.count t L ≤ L.length := List.count_le_length

theorem OInv.seenB {c : Cfg} {i : Int} {g : OG} {P S : List Int} {own : Nat → List Int} (h : OInv c i g P S own) (hp : g.put < 400) {t : Nat} (t0 : 1 ≤ t) (t1 : t < 400) : -400 ≤ g.seen[t]?.getD 0 ∧ g.seen[t]?.getD 0 ≤ 1 := by
  have h1 := h.once t t0 t1
  have h2 := h.num
  have h3 := count_le_len (P.map (taskO c g.mem)) t
  rw [List.length_map] at h3
  have h4 : sum3 (fun a => List.count (t : Int) a.fl) g.act ≤ sum3 (fun a => a.fl.length) g.act := by
    have c0 := count_le_len (g.act 0).fl t
    have c1 := count_le_len (g.act 1).fl t
    have c2 := count_le_len (g.act 2).fl t
    simp only [sum3]; omega
  split at h1 <;> omega

theorem OInv.hasRng {c : Cfg} {i : Int} {g : OG} {P S : List Int} {own : Nat → List Int} (h : OInv c i g P S own) {k : Nat} (hk : k < 3) (hj : (g.act k).job = none) (hh : 0 < (g.act k).has) : 1 ≤ (g.act k).has ∧ (g.act k).has ≤ manyI c := by
  obtain ⟨_, _, h3⟩ := h.own k hk
  rw [hj] at h3
  obtain ⟨_, h3⟩ := h3
  rw [if_pos hh] at h3
  exact h.rng hk _ (by rw [h3]; simp)

/-- What is in the pool in the end. -/
theorem OInv.held {c : Cfg} {i : Int} {g : OG} {P S : List Int} {own : Nat → List Int} (hg : Good c) (h : OInv c i g P S own) : heldL c g.mem = P.map (taskO c g.mem) := by
  have hl := h.len
  have hmb := manyI_bound hg
  rw [held_is (f := fun p => [taskO c g.mem p]) hg h.inv (by omega) (fun p hp => ⟨h.pool p hp, by simp⟩)]
  exact flat_one _ _

theorem OInv.over {c : Cfg} {i : Int} {g : OG} {P S : List Int} {own : Nat → List Int} (h : OInv c i g P S own) (hj : ∀ k, k < 3 → (g.act k).job = none) {t : Nat} (t0 : 1 ≤ t) (t1 : t < 400) :
    (g.seen[t]?.getD 0) + ((List.count (t : Int) (P.map (taskO c g.mem)) : Nat) : Int) = if (t : Int) ≤ g.put then 1 else 0 := by
  have h1 := h.once t t0 t1
  have e : sum3 (fun a => List.count (t : Int) a.fl) g.act = 0 := by
    have e0 : ∀ k, k < 3 → (g.act k).fl = [] := fun k hk => by unfold Act.fl; rw [hj k hk]
    simp [sum3, e0 0, e0 1, e0 2]
  rw [e] at h1
  exact h1

theorem seen_step {T seen sq : List Int} {j xn : Nat} (hj : j < T.length) (hx : T[j] = (xn : Int)) (hl : sq.length = 400) (hn : xn < 400) (h : ∀ t : Nat, t < 400 → sq[t]?.getD 0 = seen[t]?.getD 0 + (List.count (t : Int) (T.take j) : Nat)) :
    ∀ t : Nat, t < 400 → (sq.set xn (sq[xn]?.getD 0 + 1))[t]?.getD 0 = seen[t]?.getD 0 + (List.count (t : Int) (T.take (j + 1)) : Nat) := fun t ht => by
  rw [List.take_add_one, List.getElem?_eq_getElem hj, hx]
  simp only [Option.toList_some, List.count_append, List.count_cons, List.count_nil]
  by_cases e : xn = t
  · subst e
    rw [List.getElem?_set_self (by omega), Option.getD_some, h _ ht, if_pos (by simp)]
    omega
  · rw [List.getElem?_set_ne e, h t ht]
    have : ¬ ((((xn : Nat) : Int) == (t : Int)) = true) := by simp; omega
    rw [if_neg this]
    omega

theorem seen_bound (T : List Int) (j : Nat) (x : Int) : List.count x (T.take j) ≤ List.count x T := (List.take_sublist j T).count_le x

end Go.Proofs.Ytchlbdfapgeebaa
