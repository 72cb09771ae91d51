/- Two that put packets beside others: the pool, as plain numbers. No program. Two markers that put tasks somewhere, as plain numbers: what holds between two steps. No program. Two markers that put tasks somewhere, as plain numbers: a step. No program. -/
import Derived.Test.YtfbcadknimfhjaaPkOnce2
import Derived.Test.YtfbcadknimfhjaaPkI
namespace Go.Proofs.Ytfbcadknimfhjaa
open Go.RowKit

def upd2 {α : Type} (f : Nat → α) (k : Nat) (x : α) : Nat → α := fun i => if i = k then x else f i

def sum2 {α : Type} (F : α → Nat) (f : Nat → α) : Nat := F (f 0) + F (f 1)

theorem upd2_same {α : Type} (f : Nat → α) (k : Nat) (x : α) : upd2 f k x k = x := if_pos rfl

theorem upd2_other {α : Type} {f : Nat → α} {k j : Nat} {x : α} (h : j ≠ k) : upd2 f k x j = f j := if_neg h

theorem upd2_upd2 {α : Type} (f : Nat → α) (k : Nat) (x y : α) : upd2 (upd2 f k x) k y = upd2 f k y := by
  funext i; unfold upd2; split <;> rfl

theorem sum2_upd {α : Type} (F : α → Nat) (f : Nat → α) {k : Nat} (x : α) (hk : k < 2) : sum2 F (upd2 f k x) + F (f k) = sum2 F f + F x := by
  have : k = 0 ∨ k = 1 := by omega
  rcases this with rfl | rfl <;> simp [sum2, upd2] <;> omega

theorem sum2_le {α : Type} (F : α → Nat) (f : Nat → α) {k : Nat} (hk : k < 2) : F (f k) ≤ sum2 F f := by
  have : k = 0 ∨ k = 1 := by omega
  rcases this with rfl | rfl <;> simp [sum2] <;> omega

theorem sum2_two {α : Type} (F : α → Nat) (f : Nat → α) {k j : Nat} (hk : k < 2) (hj : j < 2) (hn : j ≠ k) : F (f k) + F (f j) = sum2 F f := by
  have h1 : k = 0 ∨ k = 1 := by omega
  have h2 : j = 0 ∨ j = 1 := by omega
  rcases h1 with rfl | rfl <;> rcases h2 with rfl | rfl <;> simp [sum2] at * <;> omega

/-- The pool, its spare packets, and those that two have. -/
structure Pool2 (c : Cfg) (i : Int) (mem : List Int) (P S : List Int) (own : Nat → List Int) : Prop where
  inv : Inv c mem P S
  h4 : hiI (mget mem 4) ≤ i
  h5 : hiI (mget mem 5) ≤ i
  cnt : ∀ q, sum2 (List.count q) own + List.count q P + List.count q S = if 1 ≤ q ∧ q ≤ manyI c then 1 else 0
  len : sum2 List.length own + P.length + S.length = (manyI c).toNat
  one : ∀ k, k < 2 → (own k).length ≤ 1

/-- The pool's tasks. -/
def poolL (c : Cfg) (mem P : List Int) : List Int := P.flatMap (tasksL c mem)

theorem tasksL_frame {c : Cfg} {mem mem' : List Int} {p : Int} (h : ∀ j, 0 ≤ j → j ≤ 5 → mget mem' (pPack c p j) = mget mem (pPack c p j)) : tasksL c mem' p = tasksL c mem p := by
  unfold tasksL
  rw [h 0 (by omega) (by omega)]
  refine List.map_congr_left fun j hj => ?_
  have := List.mem_range.1 hj
  have hj4 : j < 4 := by omega
  rw [task_is hj4, h _ (by omega) (by omega)]

theorem poolL_frame {c : Cfg} {mem mem' P : List Int} (h : ∀ p ∈ P, ∀ j, 0 ≤ j → j ≤ 5 → mget mem' (pPack c p j) = mget mem (pPack c p j)) : poolL c mem' P = poolL c mem P :=
  flatMap_congr' (fun p hp => tasksL_frame (h p hp))

/-- A write elsewhere. -/
structure Apt (c : Cfg) (mem mem' : List Int) : Prop where
  len : mem'.length = mem.length
  h4 : mget mem' 4 = mget mem 4
  h5 : mget mem' 5 = mget mem 5
  pks : ∀ q j, 1 ≤ q → q ≤ manyI c → 0 ≤ j → j ≤ 5 → mget mem' (pPack c q j) = mget mem (pPack c q j)

theorem Apt.put {c : Cfg} {mem : List Int} {a x : Int} (h4 : a ≠ 4) (h5 : a ≠ 5) (hp : ∀ q j, 1 ≤ q → q ≤ manyI c → 0 ≤ j → j ≤ 5 → a ≠ pPack c q j) : Apt c mem (mput mem a x) :=
  ⟨mput_len _ _ _, mget_other (Ne.symm h4), mget_other (Ne.symm h5), fun q j q1 q2 j1 j2 => mget_other (Ne.symm (hp q j q1 q2 j1 j2))⟩

section
variable {c : Cfg} {i : Int} {mem mem' P S : List Int} {own : Nat → List Int}

theorem PopSt.apt {hd : Int} {L : List Int} {x : SM} (h : PopSt c mem hd x) (k : Apt c mem mem') (hh : hd = 4 ∨ hd = 5) (hL : Linked (lnk c) mem hd L) (hr : ∀ q ∈ L, 1 ≤ q ∧ q ≤ manyI c) : PopSt c mem' hd x := by
  have e : mget mem' hd = mget mem hd := by rcases hh with rfl | rfl; exact k.h4; exact k.h5
  obtain ⟨h1, h2⟩ := h
  refine ⟨h1, ?_⟩
  split at h2
  · trivial
  · rw [e]; exact h2
  · refine ⟨h2.1, h2.2.1, by rw [e]; exact h2.2.2.1, fun e2 => ?_⟩
    rw [e] at e2
    obtain ⟨p, L', rfl, hp, _⟩ := hL.first (by rw [e2, ← h2.1]; exact h2.2.1)
    have hpr := hr p (by simp)
    have hxi : x.item = p := by rw [h2.1, ← e2, hp]
    rw [h2.2.2.2 e2, hxi]
    show loI (mget mem (pPack c p 1)) = loI (mget mem' (pPack c p 1))
    rw [k.pks p 1 hpr.1 hpr.2 (by omega) (by omega)]
  · exact h2

theorem PushSt.apt {hd q : Int} {x : SM} (h : PushSt c mem hd q x) (k : Apt c mem mem') (hh : hd = 4 ∨ hd = 5) (hq : 1 ≤ q ∧ q ≤ manyI c) : PushSt c mem' hd q x := by
  have e : mget mem' hd = mget mem hd := by rcases hh with rfl | rfl; exact k.h4; exact k.h5
  obtain ⟨h1, h2, h3⟩ := h
  refine ⟨h1, h2, ?_⟩
  split at h3
  · trivial
  · rw [e]; exact h3
  · rw [e, show lnk c q = pPack c q 1 from rfl, k.pks q 1 hq.1 hq.2 (by omega) (by omega)]; exact h3
  · exact h3

theorem PB.aptPut {ts : List Int} {pm : PM} {mine : List Int} (h : PB c mem (.put ts) pm mine) (hl : ts.length ≤ 4) (k : Apt c mem mem') (hi : Inv c mem P S) (hm : ∀ q ∈ mine, 1 ≤ q ∧ q ≤ manyI c) : PB c mem' (.put ts) pm mine := by
  obtain ⟨ht, h⟩ := h
  refine ⟨ht, ?_⟩
  have task : ∀ i : Nat, i < ts.length → pm.p ∈ mine → mget mem' (pTask c pm.p i) = mget mem (pTask c pm.p i) := fun i hi4 hin => by
    have := hm _ hin
    rw [task_is (by omega)]
    exact k.pks _ _ this.1 this.2 (by omega) (by omega)
  split at h
  · exact ⟨h.1, h.2.1, h.2.2.apt k (.inr rfl) hi.spare (fun q hq => hi.rng q (by simp [hq]))⟩
  · refine ⟨h.1, h.2.1, fun i hi4 => ?_⟩
    rw [task i (by omega) (by rw [h.1]; simp)]; exact h.2.2 i hi4
  · refine ⟨h.1, fun i hi4 => ?_⟩
    rw [task i hi4 (by rw [h.1]; simp)]; exact h.2 i hi4
  · have := hm pm.p (by rw [h.1]; simp)
    exact ⟨h.1, h.2.1.frame hl (fun j j0 j1 _ => k.pks pm.p j this.1 this.2 j0 j1), h.2.2.apt k (.inl rfl) this⟩
  · exact h

theorem Inv.apt (hi : Inv c mem P S) (k : Apt c mem mem') : Inv c mem' P S := by
  refine ⟨by rw [k.len]; exact hi.len, ?_, ?_, hi.rng, hi.nd⟩
  · exact hi.pool.head (by rw [k.h4]) (fun p hp => by have := hi.rng p (by simp [hp]); exact congrArg loI (k.pks p 1 this.1 this.2 (by omega) (by omega)))
  · exact hi.spare.head (by rw [k.h5]) (fun p hp => by have := hi.rng p (by simp [hp]); exact congrArg loI (k.pks p 1 this.1 this.2 (by omega) (by omega)))

theorem Pool2.apt (h : Pool2 c i mem P S own) (k : Apt c mem mem') : Pool2 c i mem' P S own :=
  ⟨h.inv.apt k, by rw [k.h4]; exact h.h4, by rw [k.h5]; exact h.h5, h.cnt, h.len, h.one⟩

theorem Pool2.later {j : Int} (h : Pool2 c i mem P S own) (hij : i ≤ j) : Pool2 c j mem P S own :=
  { h with h4 := by have := h.h4; omega, h5 := by have := h.h5; omega }

theorem Pool2.poolApt (h : Pool2 c i mem P S own) (k : Apt c mem mem') : poolL c mem' P = poolL c mem P :=
  poolL_frame (fun p hp j j0 j1 => by have := h.inv.rng p (by simp [hp]); exact k.pks p j this.1 this.2 j0 j1)

theorem Pool2.rng (h : Pool2 c i mem P S own) {k : Nat} (hk : k < 2) : ∀ q ∈ own k, 1 ≤ q ∧ q ≤ manyI c := fun q hq => by
  have h1 := h.cnt q
  have h2 := sum2_le (List.count q) own hk
  have h3 := List.count_pos_iff.2 hq
  split at h1
  · next e => exact e
  · omega

theorem Pool2.apart (h : Pool2 c i mem P S own) {k : Nat} (hk : k < 2) : ∀ q ∈ P ++ S, q ∉ own k := fun q hq e => by
  have h1 := h.cnt q
  have h2 := sum2_le (List.count q) own hk
  have h3 := List.count_pos_iff.2 e
  have h4 : 0 < List.count q P + List.count q S := by
    rw [← List.count_append]; exact List.count_pos_iff.2 hq
  split at h1 <;> omega

theorem Pool2.apart2 (h : Pool2 c i mem P S own) {k j : Nat} (hk : k < 2) (hj : j < 2) (hn : j ≠ k) : ∀ q ∈ own j, q ∉ own k := fun q hq e => by
  have h1 := h.cnt q
  have h2 := sum2_two (List.count q) own hk hj hn
  have h3 := List.count_pos_iff.2 e
  have h4 := List.count_pos_iff.2 hq
  split at h1 <;> omega

theorem Pool2.nd (h : Pool2 c i mem P S own) {k : Nat} (hk : k < 2) : (own k ++ P ++ S).Nodup := by
  rw [List.nodup_iff_count]
  intro q
  have h1 := h.cnt q
  have h2 := sum2_le (List.count q) own hk
  rw [List.count_append, List.count_append]
  split at h1 <;> omega

/-- There is a spare packet, if those that are out are fewer than all. -/
theorem Pool2.spare (h : Pool2 c i mem P S own) (hg : Good c) {k : Nat} (hk : k < 2) (h0 : own k = []) (hp : (P.length : Int) + 1 < manyI c) : S ≠ [] := by
  have hmb := manyI_bound hg
  have h1 := h.len
  have h2 := sum2_upd List.length own [0] hk
  rw [h0] at h2
  simp only [List.length_nil, List.length_cons] at h2
  have hj : ∃ j, j < 2 ∧ j ≠ k := by
    by_cases e : k = 0
    · exact ⟨1, by omega, by omega⟩
    · exact ⟨0, by omega, by omega⟩
  obtain ⟨j, hj, hn⟩ := hj
  have h3 := sum2_two List.length own hk hj hn
  have h4 := h.one j hj
  rw [h0] at h3
  simp only [List.length_nil] at h3
  intro e
  rw [e] at h1
  simp only [List.length_nil] at h1
  omega

/-- A step of one who puts. -/
theorem Pool2.put {pm : PM} {ts : List Int} (hg : Good c) (h : Pool2 c i mem P S own) (hU : ∀ x ∈ mem, U x) (hi : i < 4294967295) {k : Nat} (hk : k < 2) (hb : PB c mem (.put ts) pm (own k)) (hts : 0 < ts.length ∧ ts.length ≤ 4) (hd : pm.pc ≠ .done) (hS : pm.pc = .spare → S ≠ []) :
    ∃ P' S' own2, Pool2 c (i + 1) (pmStep c mem pm).1 P' S' (upd2 own k own2) ∧
      (∀ us qm mine, PB c mem (.put us) qm mine → us.length ≤ 4 → (∀ q ∈ mine, 1 ≤ q ∧ q ≤ manyI c ∧ q ∉ own k) → PB c (pmStep c mem pm).1 (.put us) qm mine) ∧
      (∀ a, a ≠ 4 → a ≠ 5 → (∀ q j, 1 ≤ q → q ≤ manyI c → 0 ≤ j → j ≤ 5 → a ≠ pPack c q j) → mget (pmStep c mem pm).1 a = mget mem a) ∧
      (((pmStep c mem pm).2.pc ≠ .done ∧ PB c (pmStep c mem pm).1 (.put ts) (pmStep c mem pm).2 own2 ∧ poolL c (pmStep c mem pm).1 P' = poolL c mem P ∧ P'.length = P.length) ∨
       ((pmStep c mem pm).2.pc = .done ∧ own2 = [] ∧ poolL c (pmStep c mem pm).1 P' = ts ++ poolL c mem P ∧ P'.length = P.length + 1)) := by
  have hrng := h.rng hk
  have hap := h.apart hk
  obtain ⟨own2, P', S', hi', hb', hf, hperm, htk, hE⟩ := PB.step hg h.inv hU hb (fun us e => by cases e; exact hts) hrng (h.nd hk) (by have := h.h4; omega) (by have := h.h5; omega) hS hd
  have hpool : poolL c (pmStep c mem pm).1 P = poolL c mem P := poolL_frame (fun p hp j j0 j1 => by
    have := h.inv.rng p (by simp [hp])
    exact hf.pks p j this.1 this.2 (hap p (by simp [hp])) j0 j1)
  have hP2 : own2.length ≤ 1 → Pool2 c (i + 1) (pmStep c mem pm).1 P' S' (upd2 own k own2) := fun h1 => by
    refine ⟨hi', ?_, ?_, fun q => ?_, ?_, fun m hm => ?_⟩
    · have := h.h4
      rcases hf.hd4 with e | e <;> rw [e] <;> omega
    · have := h.h5
      rcases hf.hd5 with e | e <;> rw [e] <;> omega
    · have e1 := sum2_upd (List.count q) own own2 hk
      have e2 := hperm.count_eq q
      rw [List.count_append, List.count_append, List.count_append, List.count_append] at e2
      have e3 := h.cnt q
      rw [← e3]
      omega
    · have e1 := sum2_upd List.length own own2 hk
      have e2 := hperm.length_eq
      rw [List.length_append, List.length_append, List.length_append, List.length_append] at e2
      have e3 := h.len
      omega
    · by_cases e : m = k
      · subst e; rw [upd2_same]; exact h1
      · rw [upd2_other e]; exact h.one m hm
  have hoth : ∀ us qm mine, PB c mem (.put us) qm mine → us.length ≤ 4 → (∀ q ∈ mine, 1 ≤ q ∧ q ≤ manyI c ∧ q ∉ own k) → PB c (pmStep c mem pm).1 (.put us) qm mine := fun us qm mine hq hl hm =>
    hq.frm (by have := hq.1; rw [this]; exact hl) hf h.inv hap hm
  have hfar : ∀ a, a ≠ 4 → a ≠ 5 → (∀ q j, 1 ≤ q → q ≤ manyI c → 0 ≤ j → j ≤ 5 → a ≠ pPack c q j) → mget (pmStep c mem pm).1 a = mget mem a := fun a a4 a5 ha =>
    hf.far a a4 a5 (fun q hq j j0 j1 => ha q j (hrng q hq).1 (hrng q hq).2 j0 j1)
  cases hE with
  | quiet h1 h2 h3 h4 h5 =>
    subst h2
    exact ⟨_, _, _, hP2 (by rw [h1]; exact h.one k hk), hoth, hfar, .inl ⟨h4, hb', hpool, rfl⟩⟩
  | spare p h0 h1 h2 h3 h4 =>
    subst h2
    exact ⟨_, _, _, hP2 (by rw [h1.2]; simp), hoth, hfar, .inl ⟨by rw [h4]; simp, hb', hpool, rfl⟩⟩
  | pushed p us h0 h1 h2 h3 h4 h5 =>
    cases h0
    subst h2
    refine ⟨_, _, _, hP2 (by rw [h1.2]; simp), hoth, hfar, .inr ⟨h4, h1.2, ?_, rfl⟩⟩
    show (tasksL c _ p) ++ poolL c _ P = _
    rw [hpool, tasks_content h5 hts.2]
  | taken p h0 => cases h0
  | nothing h0 => cases h0
  | backed q h0 => cases h0

theorem Pool2.held (hg : Good c) (h : Pool2 c i mem P S own) : heldL c mem = poolL c mem P := by
  have hl := h.len
  have hmb := manyI_bound hg
  unfold heldL poolL
  rw [h.inv.walk hg (by omega)]

theorem Pool2.init (hg : Good c) (h4 : mget (firstL c) 4 = 0) (h5 : mget (firstL c) 5 = 1) (hc : ∀ q, List.count q (upL 1 (manyI c).toNat) = if 1 ≤ q ∧ q ≤ manyI c then 1 else 0) : Pool2 c 0 (firstL c) [] (upL 1 (manyI c).toNat) (fun _ => []) := by
  refine ⟨seqFirst hg, by rw [h4]; unfold hiI; omega, by rw [h5]; unfold hiI; omega, fun q => ?_, by simp [sum2, upL_len], fun _ _ => Nat.zero_le _⟩
  simp only [sum2, List.count_nil, Nat.add_zero, Nat.zero_add]
  exact hc q

end

end Go.Proofs.Ytfbcadknimfhjaa

namespace Go.Proofs.Ytfbcadknimfhjaa
open Go.RowKit

/-- What one of the two does, and how many tasks it has left. -/
structure AAct where
  job : Option AM
  left : Nat

structure AG where
  mem : List Int
  next : Int
  act : Nat → AAct

def AAct.fl (a : AAct) : List Int := match a.job with
  | some am => [am.task]
  | none => []

def aoBegin (c : Cfg) (k : Nat) (g : AG) : AG := { g with next := g.next + 1, act := upd2 g.act k ⟨some (newAM c k ((g.next + 1) * 2 + k)), (g.act k).left - 1⟩ }

def aoTurn (c : Cfg) (k : Nat) (g : AG) : AG := match (g.act k).job with
  | none => g
  | some am => { g with mem := (amStep c k g.mem am).1, act := upd2 g.act k ⟨if (amStep c k g.mem am).2.pc.fin then none else some (amStep c k g.mem am).2, (g.act k).left⟩ }

/-- A deque's push, as far as it is. -/
def DqSt (c : Cfg) (mem : List Int) (k : Nat) (D : List Int) (x : Int) (d : DQ) : Prop := d.wd = x ∧ match d.pc with
  | .pushBottom => True
  | .pushTop => d.b = D.length
  | .pushEntry => d.b = D.length ∧ (D.length : Int) < c.dq
  | .pushEnd => d.b = D.length ∧ (D.length : Int) < c.dq ∧ mget mem (pEnd c k (2 + D.length)) = x
  | _ => False

/-- What one has. -/
def AoAct (c : Cfg) (mem : List Int) (k : Nat) (D own : List Int) (a : AAct) : Prop := match a.job with
  | none => own = []
  | some am => am.task % 2 = k ∧ match am.pc with
    | .done => False
    | .own => own = [] ∧ am.put = putOne am.task ∧ DqSt c mem k D am.task am.dq
    | .pool => PB c mem (.put [am.task]) am.put own ∧ am.put.pc ≠ .done ∧ (D.length : Int) = c.dq

/-- A marker's deque. -/
structure DqInv (c : Cfg) (mem : List Int) (k : Nat) (D : List Int) : Prop where
  top : mget mem (pEnd c k 0) = 0
  bot : mget mem (pEnd c k 1) = D.length
  ents : ∀ j : Nat, j < D.length → mget mem (pEnd c k (2 + j)) = D[j]?.getD 0
  le : (D.length : Int) ≤ c.dq
  par : ∀ x ∈ D, x % 2 = k

structure AoInv (c : Cfg) (i : Int) (g : AG) (P S : List Int) (own D : Nat → List Int) (Z : List Int) : Prop where
  pool : Pool2 c i g.mem P S own
  all : ∀ x ∈ g.mem, U x
  dq : ∀ k, k < 2 → DqInv c g.mem k (D k)
  job : ∀ k, k < 2 → AoAct c g.mem k (D k) (own k) (g.act k)
  cnt : ∀ x, sum2 (List.count x) D + List.count x (poolL c g.mem P) + sum2 (fun a => List.count x a.fl) g.act = List.count x Z
  len : sum2 List.length D + P.length + sum2 (fun a => a.fl.length) g.act = Z.length
  zlen : (Z.length : Int) = g.next
  zr : ∀ x ∈ Z, 2 ≤ x ∧ x ≤ 2 * g.next + 1
  znd : Z.Nodup

theorem DqInv.frame {c : Cfg} {mem mem' : List Int} {k : Nat} {D : List Int} (h : DqInv c mem k D) (e : ∀ j, 0 ≤ j → j < 2 + c.dq → mget mem' (pEnd c k j) = mget mem (pEnd c k j)) (hq : 2 ≤ c.dq) : DqInv c mem' k D :=
  ⟨by rw [e 0 (by omega) (by omega)]; exact h.top, by rw [e 1 (by omega) (by omega)]; exact h.bot, fun j hj => by have := h.le; rw [e _ (by omega) (by omega)]; exact h.ents j hj, h.le, h.par⟩

theorem DqSt.frame {c : Cfg} {mem mem' : List Int} {k : Nat} {D : List Int} {x : Int} {d : DQ} (h : DqSt c mem k D x d) (e : ∀ j, 0 ≤ j → j < 2 + c.dq → mget mem' (pEnd c k j) = mget mem (pEnd c k j)) : DqSt c mem' k D x d := by
  obtain ⟨h1, h2⟩ := h
  refine ⟨h1, ?_⟩
  split at h2
  · exact h2
  · exact h2
  · exact h2
  · exact ⟨h2.1, h2.2.1, by rw [e _ (by omega) (by omega)]; exact h2.2.2⟩
  · exact h2

section
variable {c : Cfg} {mem : List Int} {k : Nat}

theorem pEnd_at (hg : Good c) (hk : (k : Int) < c.mks) {j : Int} (h1 : 0 ≤ j) (h2 : j < 2 + c.dq) : pEnd c k j = dqsI c + k * (2 + c.dq) + j ∧ 12 ≤ pEnd c k j ∧ pEnd c k j < pksI c := pEnd_is hg ⟨by omega, hk⟩ h1 h2

theorem pEnd_apt (hg : Good c) (hk : (k : Int) < c.mks) {j x : Int} (h1 : 0 ≤ j) (h2 : j < 2 + c.dq) : Apt c mem (mput mem (pEnd c k j) x) := by
  have h := pEnd_at hg hk h1 h2
  exact Apt.put (by omega) (by omega) (fun q i q1 q2 i1 i2 => (pEnd_lt hg ⟨by omega, hk⟩ h1 h2).2 q i q1 q2 i1 i2)

theorem pEnd_inj (hg : Good c) {k' : Nat} (hk : (k : Int) < c.mks) (hk' : (k' : Int) < c.mks) (hk2 : k < 2) (hk2' : k' < 2) {j j' : Int} (h1 : 0 ≤ j) (h2 : j < 2 + c.dq) (h1' : 0 ≤ j') (h2' : j' < 2 + c.dq) (hn : k ≠ k' ∨ j ≠ j') : pEnd c k j ≠ pEnd c k' j' := by
  have e1 : k = 0 ∨ k = 1 := by omega
  have e2 : k' = 0 ∨ k' = 1 := by omega
  rcases e1 with rfl | rfl <;> rcases e2 with rfl | rfl
  all_goals
    have a := (pEnd_at hg hk h1 h2).1
    have b := (pEnd_at hg hk' h1' h2').1
    omega

theorem ent_is (hg : Good c) (hk : (k : Int) < c.mks) {n : Int} (h0 : 0 ≤ n) (hr : n < c.dq) : entI (endsOf c k) n = pEnd c k (2 + n) := by
  have hq : 2 ≤ c.dq ∧ c.dq ≤ 8 := by unfold Good at hg; omega
  unfold entI endsOf
  have a0 := (pEnd_at hg hk (j := 2 + 0) (by omega) (by omega)).1
  have a1 := (pEnd_at hg hk (j := 2 + n) (by omega) (by omega)).1
  simp only [pEntry]
  rw [if_pos (by omega), a0, a1, show max c.dq 1 = c.dq from by omega, Int.emod_eq_of_lt h0 hr]
  omega

end

end Go.Proofs.Ytfbcadknimfhjaa

namespace Go.Proofs.Ytfbcadknimfhjaa
open Go.RowKit

/-- How many steps a push has, and, where the deque is full, what follows. -/
def dqLeft (c : Cfg) (n : Nat) (d : DQ) : Nat := match d.pc with
  | .pushBottom => if (n : Int) < c.dq then 4 else 10
  | .pushTop => if (n : Int) < c.dq then 3 else 9
  | .pushEntry => 2
  | .pushEnd => 1
  | _ => 0

section
variable {c : Cfg} {mem : List Int} {k : Nat} {D : List Int} {x : Int} {d : DQ} {pm : PM} {sp : Bool}

/-- A step of a push. -/
theorem own_cases (hg : Good c) (hk : (k : Int) < c.mks) (hD : DqInv c mem k D) (hd : DqSt c mem k D x d) :
    (∃ d', amStep c k mem ⟨.own, x, d, pm, sp⟩ = (mem, ⟨.own, x, d', pm, sp⟩) ∧ DqSt c mem k D x d' ∧ dqLeft c D.length d' + 1 = dqLeft c D.length d) ∨
    (∃ d', amStep c k mem ⟨.own, x, d, pm, sp⟩ = (mem, ⟨.pool, x, d', putOne x, true⟩) ∧ (D.length : Int) = c.dq ∧ dqLeft c D.length d = 9) ∨
    (∃ d', amStep c k mem ⟨.own, x, d, pm, sp⟩ = (mput mem (pEnd c k (2 + D.length)) x, ⟨.own, x, d', pm, sp⟩) ∧ (D.length : Int) < c.dq ∧ (d'.wd = x ∧ d'.pc = .pushEnd ∧ d'.b = D.length) ∧ dqLeft c D.length d = 2) ∨
    (∃ d', amStep c k mem ⟨.own, x, d, pm, sp⟩ = (mput mem (pEnd c k 1) (D.length + 1), ⟨.done, x, d', pm, sp⟩) ∧ (D.length : Int) < c.dq ∧ mget mem (pEnd c k (2 + D.length)) = x ∧ dqLeft c D.length d = 1) := by
  have hq : 2 ≤ c.dq ∧ c.dq ≤ 8 := by unfold Good at hg; omega
  have hle := hD.le
  obtain ⟨pc, b, t, wd, o, wn⟩ := d
  obtain ⟨rfl, hd⟩ := hd
  simp only at hd
  cases pc <;> simp only at hd
  · left
    refine ⟨_, ow_bottom, ⟨rfl, ?_⟩, ?_⟩
    · simp only; exact hD.bot
    · simp only [dqLeft]; split <;> rfl
  · subst hd
    by_cases hr : (D.length : Int) < c.dq
    · left
      refine ⟨_, ow_top (by rw [hD.top, ahead_small (by omega) (by omega)]; omega), ⟨rfl, ?_⟩, ?_⟩
      · simp only; exact ⟨trivial, hr⟩
      · simp only [dqLeft]; rw [if_pos hr]
    · right; left
      refine ⟨_, ow_full (by rw [hD.top, ahead_small (by omega) (by omega)]; omega), by omega, ?_⟩
      simp only [dqLeft]; rw [if_neg hr]
  · obtain ⟨rfl, hr⟩ := hd
    right; right; left
    refine ⟨⟨.pushEnd, D.length, t, wd, o, wn⟩, ?_, hr, ⟨rfl, rfl, rfl⟩, rfl⟩
    rw [← ent_is hg hk (by omega) hr]
    exact ow_entry
  · obtain ⟨rfl, hr, he⟩ := hd
    right; right; right
    refine ⟨⟨.done, D.length, t, 0, 1, wn⟩, ?_, hr, he, rfl⟩
    have e := ow_end (c := c) (k := k) (mem := mem) (x := wd) (pm := pm) (sp := sp) (b := D.length) (t := t) (o := o) (wn := wn)
    rw [show ((D.length : Int) + 1) % 18446744073709551616 = D.length + 1 from by omega] at e
    exact e

end

/-- How many steps one's job has. -/
def AAct.jobLeft (c : Cfg) (n : Nat) (a : AAct) : Nat := match a.job with
  | none => 0
  | some am => match am.pc with
    | .done => 0
    | .own => dqLeft c n am.dq
    | .pool => am.put.left

/-- How many tasks the deque has, or will have. -/
def AAct.will (c : Cfg) (n : Nat) (a : AAct) : Nat := match a.job with
  | none => n
  | some am => match am.pc with
    | .own => if (n : Int) < c.dq then n + 1 else n
    | _ => n

/-- What it has seen of the pool is old. -/
def AAct.stale (mem : List Int) (a : AAct) : Nat := match a.job with
  | none => 0
  | some am => match am.pc with
    | .pool => am.put.stale mem
    | _ => 0

/-- How often heads are to be turned by it. -/
def AAct.tA (a : AAct) : Nat := 2 * a.left + match a.job with
  | none => 0
  | some am => match am.pc with
    | .done => 0
    | .own => 2
    | .pool => am.put.turns

def AAct.phi (c : Cfg) (n : Nat) (a : AAct) : Nat := 10 * a.left - 6 * min a.left (2 - min (a.will c n) 2) + a.jobLeft c n

/-- How many tasks a deque has. -/
def botN (c : Cfg) (mem : List Int) (k : Nat) : Nat := (mget mem (pEnd c k 1)).toNat

/-- How far each is from its end. -/
def AFar (c : Cfg) (u : Nat → Nat) (g : AG) : Prop := ∀ k, k < 2 → ((g.act k).job ≠ none ∨ 0 < (g.act k).left) → (g.act k).phi c (botN c g.mem k) + (g.act k).stale g.mem + 3 * sum2 AAct.tA g.act + u k ≤ 68 + 3 * (g.act k).tA

theorem AAct.stale_le (mem : List Int) (a : AAct) : a.stale mem ≤ 3 := by
  unfold AAct.stale
  split
  · omega
  · split
    · exact PM.stale_le _ _
    · omega

end Go.Proofs.Ytfbcadknimfhjaa
