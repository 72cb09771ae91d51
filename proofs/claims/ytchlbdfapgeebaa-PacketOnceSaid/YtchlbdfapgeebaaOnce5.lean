/- Three that put packets, take them and put them back, as plain numbers: each comes to its end. No program. -/
import Derived.Test.YtchlbdfapgeebaaOnce4
namespace Go.Proofs.Ytchlbdfapgeebaa
open Go.RowKit

def Act.tA (a : Act) : Nat := match a.job with
  | some pm => pm.turns
  | none => 0

theorem Act.tA_le (a : Act) : a.tA ≤ 2 := by
  unfold Act.tA
  split
  · exact PM.turns_le _
  · omega

/-- How far each is from its end, and how many steps it has made. -/
def FInv (u : Nat → Nat) (g : OG) : Prop := ∀ k, k < 3 → ∀ pm, (g.act k).job = some pm → pm.left + pm.stale g.mem + 3 * sum3 Act.tA g.act + u k ≤ 23 + 3 * pm.turns

theorem FInv.start {u : Nat → Nat} {g : OG} (h : ∀ k, k < 3 → u k = 0) : FInv u g := fun k hk pm hj => by
  have h1 := pm.left_le
  have h2 := pm.stale_le g.mem
  have h3 := sum3_upd Act.tA g.act ⟨none, 0, 0⟩ hk
  have h4 : (⟨none, 0, 0⟩ : Act).tA = 0 := rfl
  have h5 : (g.act k).tA = pm.turns := by unfold Act.tA; rw [hj]
  have h6 := h k hk
  have h7 : sum3 Act.tA (upd g.act k ⟨none, 0, 0⟩) ≤ 4 := by
    have hk3 : k = 0 ∨ k = 1 ∨ k = 2 := by omega
    have t0 := Act.tA_le (g.act 0)
    have t1 := Act.tA_le (g.act 1)
    have t2 := Act.tA_le (g.act 2)
    rcases hk3 with rfl | rfl | rfl <;> simp [sum3, upd, h4] <;> omega
  rw [h4, h5] at h3
  omega

theorem FInv.over {u : Nat → Nat} {g : OG} (h : FInv u g) {k : Nat} (hk : k < 3) (hu : 24 ≤ u k) : (g.act k).job = none := by
  cases hj : (g.act k).job with
  | none => rfl
  | some pm =>
    have h1 := h k hk pm hj
    have h2 := sum3_le Act.tA g.act hk
    have h3 : (g.act k).tA = pm.turns := by unfold Act.tA; rw [hj]
    omega

theorem PB.heads {c : Cfg} {mem : List Int} {r : Role} {pm : PM} {own : List Int} (h : PB c mem r pm own) : pm.pc = .spare ∨ pm.pc = .last → pm.x.head = 4 ∨ pm.x.head = 5 := by
  unfold PB at h
  rintro (e | e) <;> rw [e] at h <;> cases r <;> simp only at h
  · exact .inr h.2.2.2.1
  · exact .inl h.2.2.2.1
  · exact .inl h.2.1
  · exact .inr h.2.1

/-- What a turn leaves of the one who turned, and of memory. -/
theorem oTurn_act {c : Cfg} {k : Nat} {g : OG} {pm : PM} (hj : (g.act k).job = some pm) :
    (oTurn c k g).mem = (pmStep c g.mem pm).1 ∧ ∃ a, (oTurn c k g).act = upd g.act k a ∧ ((pmStep c g.mem pm).2.pc ≠ .done ∧ a.job = some (pmStep c g.mem pm).2 ∨ a.job = none) := by
  unfold oTurn
  rw [hj]
  simp only
  cases e : (pmStep c g.mem pm).2.pc.fin
  · simp only [Bool.false_eq_true, if_false]
    exact ⟨trivial, _, rfl, .inl ⟨fun e' => (by rw [e'] at e; cases e), rfl⟩⟩
  · simp only [if_true]
    unfold oEnd
    split
    · exact ⟨rfl, _, rfl, .inr rfl⟩
    · split
      · exact ⟨rfl, _, rfl, .inr rfl⟩
      · exact ⟨rfl, _, rfl, .inr rfl⟩

theorem FInv.turn {c : Cfg} {i : Int} {g : OG} {P S : List Int} {own : Nat → List Int} {u : Nat → Nat} (hg : Good c) (h : OInv c i g P S own) (hF : FInv u g) {k : Nat} (hk : k < 3) : FInv (upd u k (u k + 1)) (oTurn c k g) := by
  cases hj : (g.act k).job with
  | none =>
    have : oTurn c k g = g := by unfold oTurn; rw [hj]
    rw [this]
    intro m hm pm hjm
    by_cases e : m = k
    · subst e; rw [hj] at hjm; cases hjm
    · rw [upd_other e]; exact hF m hm pm hjm
  | some pm =>
    have hsp := h.some hg hk hj
    obtain ⟨ho1, ho2, ho3⟩ := h.own k hk
    rw [hj] at ho3
    simp only at ho3
    obtain ⟨hd, hb, hhas, htl, htl4⟩ := ho3
    obtain ⟨l1, l2, l3⟩ := pm_less hg h.inv h.all hb (fun ts e => by
      obtain ⟨e1, rfl⟩ := Act.role_put e
      exact htl e1) (h.rng hk) hsp hd
    obtain ⟨hm', a, ha, hja⟩ := oTurn_act (c := c) hj
    have htk : (g.act k).tA = pm.turns := by unfold Act.tA; rw [hj]
    have hta : a.tA ≤ (pmStep c g.mem pm).2.turns := by
      unfold Act.tA
      rcases hja with ⟨_, e⟩ | e <;> rw [e] <;> simp
    have hs := sum3_upd Act.tA g.act a hk
    have hFk := hF k hk pm hj
    intro m hm qm hjm
    rw [ha] at hjm ⊢
    rw [hm']
    by_cases e : m = k
    · subst e
      rw [upd_same] at hjm ⊢
      rcases hja with ⟨hn, e⟩ | e
      · rw [e] at hjm
        cases hjm
        have := l1 hn
        have e2 : a.tA = (pmStep c g.mem pm).2.turns := by unfold Act.tA; rw [e]
        omega
      · rw [e] at hjm; cases hjm
    · rw [upd_other e] at hjm ⊢
      have hFm := hF m hm qm hjm
      obtain ⟨_, _, o3⟩ := h.own m hm
      rw [hjm] at o3
      rcases l3 with ⟨e4, e5⟩ | l3
      · rw [PM.stale_frm o3.2.1.heads e4 e5]
        omega
      · have := qm.stale_le (pmStep c g.mem pm).1
        omega

end Go.Proofs.Ytchlbdfapgeebaa
