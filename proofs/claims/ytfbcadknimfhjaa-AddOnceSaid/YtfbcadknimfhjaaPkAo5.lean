/- Two markers that put tasks somewhere, and a law's rows: what holds between two steps. -/
import Derived.Test.YtfbcadknimfhjaaPkO
import Derived.Test.YtfbcadknimfhjaaPkH
namespace Go.Proofs.Ytfbcadknimfhjaa
open Go.RowKit

/-- Two values. -/
def list2 (f : Nat → Value) : List Value := [f 0, f 1]

theorem list2_get (f : Nat → Value) {k : Nat} (hk : k < 2) : (list2 f)[k]? = some (f k) := by
  have : k = 0 ∨ k = 1 := by omega
  rcases this with rfl | rfl <;> rfl

theorem list2_set (f : Nat → Value) {k : Nat} (v : Value) (hk : k < 2) : (list2 f).set k v = list2 (upd2 f k v) := by
  have : k = 0 ∨ k = 1 := by omega
  rcases this with rfl | rfl <;> rfl

theorem list2_congr {f g : Nat → Value} (h : ∀ k, k < 2 → f k = g k) : list2 f = list2 g := by
  unfold list2; rw [h 0 (by omega), h 1 (by omega)]

def jobA (act : Nat → AAct) (bk : Nat → Nat) (k : Nat) : Value := match (act k).job with
  | none => .pointer none
  | some _ => .pointer (some ⟨bk k, 0, none⟩)

def leftA (act : Nat → AAct) (k : Nat) : Value := .int .i64 (act k).left

theorem jobA_some {act : Nat → AAct} {b : Nat → Nat} {k : Nat} {am : AM} (hj : (act k).job = some am) : jobA act b k = .pointer (some ⟨b k, 0, none⟩) := by
  unfold jobA; rw [hj]

structure AOm (c : Cfg) (w4 : World) (bm bs bl q0 q1 : Nat) (w : World) (mem : List Int) (act : Nat → AAct) (bk : Nat → Nat) (O : Nat → Nat → Prop) : Prop where
  k : Kept w4 w
  st : ∃ n, StoreAt w bs bl mem n
  bo : w4.heap.size ≤ bs ∧ w4.heap.size ≤ bl
  lay : (w4.heap.size ≤ q0 ∧ w4.heap.size ≤ q1) ∧ q0 ≠ q1 ∧ (q0 ≠ bs ∧ q1 ≠ bs) ∧ (q0 ≠ bl ∧ q1 ≠ bl)
  lf : Blk w q0 3 (list2 (leftA act))
  wk : Blk w q1 39 (list2 (jobA act bk))
  x : ∀ k, k < 2 → ∀ am, (act k).job = some am → AmAt w (bk k) bm bs bl c k am (O k)
  ob : ∀ k, k < 2 → ∀ q, O k q → w4.heap.size ≤ q ∧ q < w.heap.size ∧ (q ≠ bs ∧ q ≠ bl) ∧ (q ≠ q0 ∧ q ≠ q1)
  dj : ∀ k j, k < 2 → j < 2 → j ≠ k → ∀ q, O j q → ¬ O k q

section
variable {c : Cfg} {w4 : World} {bm bs bl q0 q1 : Nat} {w w' : World} {mem : List Int} {act : Nat → AAct} {bk : Nat → Nat} {O : Nat → Nat → Prop}

theorem AOm.kept (h : AOm c w4 bm bs bl q0 q1 w mem act bk O) (k : Kept w w') : AOm c w4 bm bs bl q0 q1 w' mem act bk O :=
  ⟨h.k.trans' k, h.st.elim fun n hs => ⟨n, hs.kept k⟩, h.bo, h.lay, k.blk h.lf, k.blk h.wk,
    fun j hj am e => (h.x j hj am e).chg (Chg.ofBelow (S := fun _ => False) k) (fun _ _ => id),
    fun j hj q e => ⟨(h.ob j hj q e).1, Nat.lt_of_lt_of_le (h.ob j hj q e).2.1 k.size, (h.ob j hj q e).2.2⟩, h.dj⟩

theorem AOm.cast {act' : Nat → AAct} (h : AOm c w4 bm bs bl q0 q1 w mem act bk O) (e : act = act') : AOm c w4 bm bs bl q0 q1 w mem act' bk O := e ▸ h

/-- One block of the law's rows was changed. -/
theorem AOm.row (h : AOm c w4 bm bs bl q0 q1 w mem act bk O) {q : Nat} (hq : q = q0 ∨ q = q1) (k : Chg (fun x => x = q) w w') :
    Kept w4 w' ∧ (∃ n, StoreAt w' bs bl mem n) ∧ (∀ j, j < 2 → ∀ am, (act j).job = some am → AmAt w' (bk j) bm bs bl c j am (O j)) ∧ (∀ j, j < 2 → ∀ x, O j x → w4.heap.size ≤ x ∧ x < w'.heap.size ∧ (x ≠ bs ∧ x ≠ bl) ∧ (x ≠ q0 ∧ x ≠ q1)) := by
  obtain ⟨⟨l1, l2⟩, _, ⟨m1, m2⟩, n1, n2⟩ := h.lay
  have hq4 : w4.heap.size ≤ q := by rcases hq with rfl | rfl <;> assumption
  have hqs : q ≠ bs := by rcases hq with rfl | rfl <;> assumption
  have hql : q ≠ bl := by rcases hq with rfl | rfl <;> assumption
  have hqo : ∀ j, j < 2 → ∀ x, O j x → x ≠ q := fun j hj x hx => by
    obtain ⟨e0, e1⟩ := (h.ob j hj x hx).2.2.2
    rcases hq with rfl | rfl <;> assumption
  exact ⟨h.k.trans (k.toBelow h.k.size (fun x hx e => absurd hx (by rw [e]; exact Nat.not_lt.2 hq4))), h.st.elim fun n hs => ⟨n, hs.chg k (fun e => hqs e.symm) (fun e => hql e.symm)⟩, fun j hj am e => (h.x j hj am e).chg k (fun x hx e => hqo j hj x hx e), fun j hj x hx => ⟨(h.ob j hj x hx).1, Nat.lt_of_lt_of_le (h.ob j hj x hx).2.1 k.size, (h.ob j hj x hx).2.2⟩⟩

/-- One has a task less. -/
theorem AOm.setL (h : AOm c w4 bm bs bl q0 q1 w mem act bk O) {k : Nat} (hk : k < 2) (v : Nat) : AOm c w4 bm bs bl q0 q1 (w.setCell ⟨q0, k, none⟩ (.int .i64 v)) mem (upd2 act k { act k with left := v }) bk O := by
  have kc : Chg (fun x => x = q0) w (w.setCell ⟨q0, k, none⟩ (.int .i64 v)) := (Chg.refl _ _).setCell _ _ (fun _ => rfl)
  obtain ⟨r1, r2, r3, r4⟩ := h.row (.inl rfl) kc
  have l1 := h.lay.2.1
  refine ⟨r1, r2, h.bo, h.lay, h.lf.set' k _ ?_, ?_, fun j hj am e => r3 j hj am ?_, r4, h.dj⟩
  · rw [list2_set _ _ hk]
    refine list2_congr fun j _ => ?_
    unfold leftA upd2; split <;> simp_all
  · rw [list2_congr (g := jobA act bk) (fun j _ => ?_)]
    · exact kc.blk h.wk (fun e => l1 e.symm)
    · unfold jobA; by_cases e : j = k
      · subst e; rw [upd2_same]
      · rw [upd2_other e]
  · unfold upd2 at e; split at e <;> simp_all

/-- One is finished. -/
theorem AOm.setN (h : AOm c w4 bm bs bl q0 q1 w mem act bk O) {k : Nat} (hk : k < 2) : AOm c w4 bm bs bl q0 q1 (w.setCell ⟨q1, k, none⟩ (.pointer none)) mem (upd2 act k { act k with job := none }) bk O := by
  have kc : Chg (fun x => x = q1) w (w.setCell ⟨q1, k, none⟩ (.pointer none)) := (Chg.refl _ _).setCell _ _ (fun _ => rfl)
  obtain ⟨r1, r2, r3, r4⟩ := h.row (.inr rfl) kc
  have l1 := h.lay.2.1
  refine ⟨r1, r2, h.bo, h.lay, ?_, h.wk.set' k _ ?_, fun j hj am e => r3 j hj am ?_, r4, h.dj⟩
  · rw [list2_congr (g := leftA act) (fun j _ => ?_)]
    · exact kc.blk h.lf l1
    · unfold leftA upd2; split <;> simp_all
  · rw [list2_set _ _ hk]
    refine list2_congr fun j _ => ?_
    unfold jobA upd2; split <;> simp_all
  · unfold upd2 at e; split at e <;> simp_all

/-- One begins. -/
theorem AOm.setJ (h : AOm c w4 bm bs bl q0 q1 w mem act bk O) {k : Nat} (hk : k < 2) {b : Nat} {am : AM} {O' : Nat → Prop} (hx : AmAt w b bm bs bl c k am O') (hO : ∀ q, O' q → w4.heap.size ≤ q ∧ q < w.heap.size ∧ (q ≠ bs ∧ q ≠ bl) ∧ (q ≠ q0 ∧ q ≠ q1)) (hd : ∀ j, j < 2 → ∀ q, O' q → ¬ O j q) :
    AOm c w4 bm bs bl q0 q1 (w.setCell ⟨q1, k, none⟩ (.pointer (some ⟨b, 0, none⟩))) mem (upd2 act k { act k with job := some am }) (upd2 bk k b) (upd2 O k O') := by
  have kc : Chg (fun x => x = q1) w (w.setCell ⟨q1, k, none⟩ (.pointer (some ⟨b, 0, none⟩))) := (Chg.refl _ _).setCell _ _ (fun _ => rfl)
  obtain ⟨r1, r2, r3, r4⟩ := h.row (.inr rfl) kc
  have l1 := h.lay.2.1
  refine ⟨r1, r2, h.bo, h.lay, ?_, h.wk.set' k _ ?_, fun j hj am2 e => ?_, fun j hj q e => ?_, fun i j hi hj hn q e e2 => ?_⟩
  · rw [list2_congr (g := leftA act) (fun j _ => ?_)]
    · exact kc.blk h.lf l1
    · unfold leftA upd2; split <;> simp_all
  · rw [list2_set _ _ hk]
    refine list2_congr fun j _ => ?_
    unfold jobA upd2; split <;> simp_all
  · by_cases ej : j = k
    · subst ej
      rw [upd2_same] at e ⊢
      rw [upd2_same]
      cases e
      exact hx.chg kc (fun x hx e => (hO x hx).2.2.2.2 e)
    · rw [upd2_other ej] at e ⊢
      rw [upd2_other ej]
      exact r3 j hj am2 e
  · by_cases ej : j = k
    · subst ej
      rw [upd2_same] at e
      have := hO q e
      exact ⟨this.1, Nat.lt_of_lt_of_le this.2.1 kc.size, this.2.2⟩
    · rw [upd2_other ej] at e
      exact r4 j hj q e
  · by_cases ej : j = k
    · subst ej
      rw [upd2_same] at e
      rw [upd2_other (Ne.symm hn)] at e2
      exact hd i hi q e e2
    · rw [upd2_other ej] at e
      by_cases ei : i = k
      · subst ei
        rw [upd2_same] at e2
        exact hd j hj q e2 e
      · rw [upd2_other ei] at e2
        exact h.dj i j hi hj hn q e e2

/-- One makes a step. -/
theorem AOm.step (h : AOm c w4 bm bs bl q0 q1 w mem act bk O) {k : Nat} (hk : k < 2) {mem' : List Int} {n' : Int} {am am' : AM} (hj : (act k).job = some am) (hx : AmAt w' (bk k) bm bs bl c k am' (Grow (O k) w w')) (hs : StoreAt w' bs bl mem' n') (hc : Chg (OwnB (O k) bs bl) w w') :
    AOm c w4 bm bs bl q0 q1 w' mem' (upd2 act k { act k with job := some am' }) bk (upd2 O k (Grow (O k) w w')) := by
  have hbo := h.bo
  obtain ⟨⟨l1, l2⟩, _, ⟨m1, m2⟩, n1, n2⟩ := h.lay
  have hob := h.ob k hk
  have hw4 := h.k.size
  have hno : ∀ q, q = q0 ∨ q = q1 → ¬ OwnB (O k) bs bl q := fun q hq e => by
    rcases hq with rfl | rfl <;> rcases e with e | e | e
    · exact (hob _ e).2.2.2.1 rfl
    · exact m1 e
    · exact n1 e
    · exact (hob _ e).2.2.2.2 rfl
    · exact m2 e
    · exact n2 e
  have g0 := h.lf.lt
  have g1 := h.wk.lt
  obtain ⟨n0, hs0⟩ := h.st
  obtain ⟨s1, s2⟩ := hs0.lt
  refine ⟨h.k.trans (hc.toBelow h.k.size (fun x hx e => ?_)), ⟨n', hs⟩, h.bo, h.lay, ?_, ?_, fun j hj' am2 e => ?_, fun j hj' q e => ?_, fun i j hi hj' hn q e e2 => ?_⟩
  · rcases e with e | e | e
    · exact absurd hx (Nat.not_lt.2 (hob x e).1)
    · exact absurd hx (by rw [e]; exact Nat.not_lt.2 hbo.1)
    · exact absurd hx (by rw [e]; exact Nat.not_lt.2 hbo.2)
  · rw [list2_congr (g := leftA act) (fun j _ => ?_)]
    · exact hc.blk h.lf (hno _ (.inl rfl))
    · unfold leftA upd2; split <;> simp_all
  · rw [list2_congr (g := jobA act bk) (fun j _ => ?_)]
    · exact hc.blk h.wk (hno _ (.inr rfl))
    · unfold jobA; by_cases e : j = k
      · subst e; rw [upd2_same, hj]
      · rw [upd2_other e]
  · by_cases ej : j = k
    · subst ej
      rw [upd2_same] at e ⊢
      cases e
      exact hx
    · rw [upd2_other ej] at e ⊢
      refine (h.x j hj' am2 e).chg hc (fun x hx e2 => ?_)
      rcases e2 with e2 | e2 | e2
      · exact h.dj k j hk hj' ej x hx e2
      · exact (h.ob j hj' x hx).2.2.1.1 e2
      · exact (h.ob j hj' x hx).2.2.1.2 e2
  · have z := hc.size
    by_cases ej : j = k
    · subst ej
      rw [upd2_same] at e
      rcases e with e | e
      · have := hob q e
        exact ⟨this.1, Nat.lt_of_lt_of_le this.2.1 z, this.2.2⟩
      · exact ⟨Nat.le_trans hw4 e.1, e.2, ⟨Nat.ne_of_gt (Nat.lt_of_lt_of_le s1 e.1), Nat.ne_of_gt (Nat.lt_of_lt_of_le s2 e.1)⟩, Nat.ne_of_gt (Nat.lt_of_lt_of_le g0 e.1), Nat.ne_of_gt (Nat.lt_of_lt_of_le g1 e.1)⟩
    · rw [upd2_other ej] at e
      have := h.ob j hj' q e
      exact ⟨this.1, Nat.lt_of_lt_of_le this.2.1 z, this.2.2⟩
  · by_cases ej : j = k
    · subst ej
      rw [upd2_same] at e
      rw [upd2_other (Ne.symm hn)] at e2
      rcases e with e | e
      · exact h.dj i j hi hj' hn q e e2
      · exact absurd (h.ob i hi q e2).2.1 (Nat.not_lt.2 e.1)
    · rw [upd2_other ej] at e
      by_cases ei : i = k
      · subst ei
        rw [upd2_same] at e2
        rcases e2 with e2 | e2
        · exact h.dj i j hi hj' hn q e e2
        · exact absurd (h.ob j hj' q e).2.1 (Nat.not_lt.2 e2.1)
      · rw [upd2_other ei] at e2
        exact h.dj i j hi hj' hn q e e2

/-- One begins: it has a task less, its machine is made, and kept. -/
theorem AOm.begun (h : AOm c w4 bm bs bl q0 q1 w mem act bk O) {k : Nat} (hk : k < 2) (v : Nat) {w1 w2 : World} (k1 : Kept (w.setCell ⟨q0, k, none⟩ (.int .i64 v)) w1) (k2 : Kept w1 w2) {b : Nat} {am : AM} (hx : AmAt w2 b bm bs bl c k am (NewB w1 w2)) :
    AOm c w4 bm bs bl q0 q1 (w2.setCell ⟨q1, k, none⟩ (.pointer (some ⟨b, 0, none⟩))) mem (upd2 act k ⟨some am, v⟩) (upd2 bk k b) (upd2 O k (NewB w1 w2)) := by
  have h1 := (h.setL hk v).kept k1
  have h2 := h1.kept k2
  obtain ⟨_, hs⟩ := h1.st
  obtain ⟨s1, s2⟩ := hs.lt
  have g0 := h1.lf.lt
  have g1 := h1.wk.lt
  have z := h1.k.size
  refine (h2.setJ hk hx (fun q hq => ⟨Nat.le_trans z hq.1, hq.2, ⟨Nat.ne_of_gt (Nat.lt_of_lt_of_le s1 hq.1), Nat.ne_of_gt (Nat.lt_of_lt_of_le s2 hq.1)⟩, Nat.ne_of_gt (Nat.lt_of_lt_of_le g0 hq.1), Nat.ne_of_gt (Nat.lt_of_lt_of_le g1 hq.1)⟩) (fun j hj q hq e => absurd (h1.ob j hj q e).2.1 (Nat.not_lt.2 hq.1))).cast ?_
  rw [upd2_upd2, upd2_same]

theorem AOm.done (h : AOm c w4 bm bs bl q0 q1 w mem act bk O) {k : Nat} (hk : k < 2) {a : AAct} {act0 : Nat → AAct} (e : act = upd2 act0 k a) : AOm c w4 bm bs bl q0 q1 (w.setCell ⟨q1, k, none⟩ (.pointer none)) mem (upd2 act0 k ⟨none, a.left⟩) bk O := by
  subst e
  refine (h.setN hk).cast ?_
  rw [upd2_upd2, upd2_same]

theorem AOm.cellW (h : AOm c w4 bm bs bl q0 q1 w mem act bk O) {k : Nat} (hk : k < 2) : w.cell? ⟨q1, k, none⟩ = some (jobA act bk k) := by
  rw [h.wk.cell k, list2_get _ hk]
theorem AOm.cellL (h : AOm c w4 bm bs bl q0 q1 w mem act bk O) {k : Nat} (hk : k < 2) : w.cell? ⟨q0, k, none⟩ = some (.int .i64 (act k).left) := by
  rw [h.lf.cell k, list2_get _ hk]; rfl

end

end Go.Proofs.Ytfbcadknimfhjaa
