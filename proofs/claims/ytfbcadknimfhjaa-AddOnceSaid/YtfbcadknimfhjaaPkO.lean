/- Two markers that put tasks somewhere, as plain numbers: a step keeps what holds. No program. Two markers that put tasks somewhere, as plain numbers: each comes to its end. No program. Two markers that put tasks somewhere, as plain numbers: what is at first, and what is in the end. No program. Two markers that put tasks somewhere, as plain numbers: what the law looks at in the end. No program. -/
import Derived.Test.YtfbcadknimfhjaaPkN
namespace Go.Proofs.Ytfbcadknimfhjaa
open Go.RowKit

section
variable {c : Cfg} {i : Int} {g : AG} {P S : List Int} {own D : Nat → List Int} {Z : List Int}

theorem sfinP_no {q : PPc} (h : q ≠ .done) : q.fin = false := by cases q <;> first | rfl | exact absurd rfl h

/-- Another's state stays, where its deque and the pool stay. -/
theorem AoAct.apt {mem mem' : List Int} {k : Nat} {Dk ow : List Int} {a : AAct} (h : AoAct c mem k Dk ow a) (e : ∀ j, 0 ≤ j → j < 2 + c.dq → mget mem' (pEnd c k j) = mget mem (pEnd c k j)) (hp : ∀ us qm, PB c mem (.put us) qm ow → us.length ≤ 4 → PB c mem' (.put us) qm ow) : AoAct c mem' k Dk ow a := by
  unfold AoAct at *
  cases hj : a.job with
  | none => rw [hj] at h; exact h
  | some am =>
    rw [hj] at h
    obtain ⟨h1, h2⟩ := h
    refine ⟨h1, ?_⟩
    cases hpc : am.pc <;> rw [hpc] at h2 <;> simp only at h2 ⊢
    · exact ⟨h2.1, h2.2.1, h2.2.2.frame e⟩
    · exact ⟨hp _ _ h2.1 (by simp), h2.2⟩

theorem AoInv.turn {am : AM} (hg : Good c) (hm2 : 2 ≤ c.mks) (h : AoInv c i g P S own D Z) (hi : i < 4294967295) {k : Nat} (hk : k < 2) (hj : (g.act k).job = some am) (hU' : ∀ x ∈ (amStep c k g.mem am).1, U x) (hz : (Z.length : Int) ≤ manyI c) :
    ∃ P' S' own' D', AoInv c (i + 1) (aoTurn c k g) P' S' own' D' Z := by
  have hq : 2 ≤ c.dq ∧ c.dq ≤ 8 := by unfold Good at hg; omega
  have hkm : ∀ m : Nat, m < 2 → (m : Int) < c.mks := fun m hm => by omega
  have hA := allI_bound hg
  have hlen := h.pool.inv.len
  have hb := h.job k hk
  have hD := h.dq k hk
  have hfl : (g.act k).fl = [am.task] := by unfold AAct.fl; rw [hj]
  unfold AoAct at hb
  rw [hj] at hb
  obtain ⟨hpar, hb⟩ := hb
  obtain ⟨pc, x, d, pm, sp⟩ := am
  simp only at hpar hb hfl
  -- what is to be shown where the pool stays
  have fin : ∀ (mem' : List Int) (a : AAct) (Dk : List Int), Apt c g.mem mem' → (∀ y ∈ mem', U y) → (∀ m, m < 2 → m ≠ k → ∀ j, 0 ≤ j → j < 2 + c.dq → mget mem' (pEnd c m j) = mget g.mem (pEnd c m j)) → DqInv c mem' k Dk → AoAct c mem' k Dk (own k) a →
      (∀ y, List.count y Dk + List.count y a.fl = List.count y (D k) + List.count y (g.act k).fl) → Dk.length + a.fl.length = (D k).length + (g.act k).fl.length →
      AoInv c (i + 1) { g with mem := mem', act := upd2 g.act k a } P S own (upd2 D k Dk) Z := fun mem' a Dk ha hu hf hdk hak hc hl => by
    refine ⟨(h.pool.apt ha).later (by omega), hu, fun m hm => ?_, fun m hm => ?_, fun y => ?_, ?_, h.zlen, h.zr, h.znd⟩
    · by_cases e : m = k
      · subst e; rw [upd2_same]; exact hdk
      · rw [upd2_other e]; exact (h.dq m hm).frame (hf m hm e) hq.1
    · by_cases e : m = k
      · subst e; simp only [upd2_same]; exact hak
      · simp only [upd2_other e]
        exact (h.job m hm).apt (hf m hm e) (fun us qm hpb hl => hpb.aptPut hl ha h.pool.inv (h.pool.rng hm))
    · have e1 := sum2_upd (List.count y) D Dk hk
      have e2 := sum2_upd (fun a => List.count y a.fl) g.act a hk
      have e3 := hc y
      have e4 := h.cnt y
      show sum2 (List.count y) (upd2 D k Dk) + List.count y (poolL c mem' P) + sum2 (fun a => List.count y a.fl) (upd2 g.act k a) = _
      rw [h.pool.poolApt ha]
      try simp only at e2
      omega
    · have e1 := sum2_upd List.length D Dk hk
      have e2 := sum2_upd (fun a => a.fl.length) g.act a hk
      have e4 := h.len
      show sum2 List.length (upd2 D k Dk) + P.length + sum2 (fun a => a.fl.length) (upd2 g.act k a) = _
      try simp only at e2
      omega
  cases pc <;> simp only at hb
  · -- own
    obtain ⟨ho, rfl, hd⟩ := hb
    rcases own_cases (pm := putOne x) (sp := sp) hg (hkm k hk) hD hd with ⟨d', e, hd', _⟩ | ⟨d', e, hr, _⟩ | ⟨d', e, hr, hd', _⟩ | ⟨d', e, hr, he, _⟩
    · have : aoTurn c k g = { g with mem := g.mem, act := upd2 g.act k ⟨some ⟨.own, x, d', putOne x, sp⟩, (g.act k).left⟩ } := by
        unfold aoTurn; rw [hj]; simp only [e]; rfl
      rw [this]
      exact ⟨P, S, own, _, fin g.mem ⟨some ⟨.own, x, d', putOne x, sp⟩, (g.act k).left⟩ (D k) ⟨rfl, rfl, rfl, fun _ _ _ _ _ _ => rfl⟩ h.all (fun _ _ _ _ _ _ => rfl) hD ⟨hpar, ho, rfl, hd'⟩ (fun y => by rw [hfl]; rfl) (by rw [hfl]; rfl)⟩
    · have : aoTurn c k g = { g with mem := g.mem, act := upd2 g.act k ⟨some ⟨.pool, x, d', putOne x, true⟩, (g.act k).left⟩ } := by
        unfold aoTurn; rw [hj]; simp only [e]; rfl
      rw [this]
      exact ⟨P, S, own, _, fin g.mem ⟨some ⟨.pool, x, d', putOne x, true⟩, (g.act k).left⟩ (D k) ⟨rfl, rfl, rfl, fun _ _ _ _ _ _ => rfl⟩ h.all (fun _ _ _ _ _ _ => rfl) hD ⟨hpar, ⟨rfl, ho, rfl, rfl, trivial⟩, by simp, hr⟩ (fun y => by rw [hfl]; rfl) (by rw [hfl]; rfl)⟩
    · rw [e] at hU'
      have z2 := pEnd_at hg (hkm k hk) (j := 2 + ((D k).length : Int)) (by omega) (by omega)
      have w2 := pEnd_lt hg ⟨by omega, hkm k hk⟩ (k := (k : Int)) (j := 2 + ((D k).length : Int)) (by omega) (by omega)
      have : aoTurn c k g = { g with mem := mput g.mem (pEnd c k (2 + (D k).length)) x, act := upd2 g.act k ⟨some ⟨.own, x, d', putOne x, sp⟩, (g.act k).left⟩ } := by
        unfold aoTurn; rw [hj]; simp only [e]; rfl
      rw [this]
      refine ⟨P, S, own, _, fin _ ⟨some ⟨.own, x, d', putOne x, sp⟩, (g.act k).left⟩ (D k) (pEnd_apt hg (hkm k hk) (by omega) (by omega)) hU' (fun m hm hn j j0 j1 => mget_other (pEnd_inj hg (hkm m hm) (hkm k hk) hm hk j0 j1 (by omega) (by omega) (.inl hn))) ⟨?_, ?_, fun j hj2 => ?_, hD.le, hD.par⟩ ⟨hpar, ho, rfl, hd'.1, ?_⟩ (fun y => by rw [hfl]; rfl) (by rw [hfl]; rfl)⟩
      · rw [mget_other (pEnd_inj hg (hkm k hk) (hkm k hk) hk hk (by omega) (by omega) (by omega) (by omega) (.inr (by omega)))]; exact hD.top
      · rw [mget_other (pEnd_inj hg (hkm k hk) (hkm k hk) hk hk (by omega) (by omega) (by omega) (by omega) (.inr (by omega)))]; exact hD.bot
      · rw [mget_other (pEnd_inj hg (hkm k hk) (hkm k hk) hk hk (by omega) (by omega) (by omega) (by omega) (.inr (by omega)))]; exact hD.ents j hj2
      · rw [hd'.2.1]
        exact ⟨hd'.2.2, hr, mget_put (by omega)⟩
    · rw [e] at hU'
      have z1 := pEnd_at hg (hkm k hk) (j := 1) (by omega) (by omega)
      have w1 := pEnd_lt hg ⟨by omega, hkm k hk⟩ (k := (k : Int)) (j := 1) (by omega) (by omega)
      have : aoTurn c k g = { g with mem := mput g.mem (pEnd c k 1) ((D k).length + 1), act := upd2 g.act k ⟨none, (g.act k).left⟩ } := by
        unfold aoTurn; rw [hj]; simp only [e]; rfl
      rw [this]
      refine ⟨P, S, own, _, fin _ ⟨none, (g.act k).left⟩ (D k ++ [x]) (pEnd_apt hg (hkm k hk) (by omega) (by omega)) hU' (fun m hm hn j j0 j1 => mget_other (pEnd_inj hg (hkm m hm) (hkm k hk) hm hk j0 j1 (by omega) (by omega) (.inl hn))) ⟨?_, ?_, fun j hj2 => ?_, ?_, fun y hy => ?_⟩ ho (fun y => ?_) ?_⟩
      · rw [mget_other (pEnd_inj hg (hkm k hk) (hkm k hk) hk hk (by omega) (by omega) (by omega) (by omega) (.inr (by omega)))]; exact hD.top
      · rw [mget_put (by omega)]; simp
      · simp only [List.length_append, List.length_cons, List.length_nil] at hj2
        rw [mget_other (pEnd_inj hg (hkm k hk) (hkm k hk) hk hk (by omega) (by omega) (by omega) (by omega) (.inr (by omega)))]
        by_cases ej : j = (D k).length
        · subst ej; rw [he]; simp
        · rw [hD.ents j (by omega), List.getElem?_append_left (by omega)]
      · simp only [List.length_append, List.length_cons, List.length_nil]; omega
      · rcases List.mem_append.1 hy with hy | hy
        · exact hD.par y hy
        · simp at hy; rw [hy]; exact hpar
      · rw [hfl, List.count_append]; simp only [AAct.fl, List.count_nil]; omega
      · rw [hfl]; simp [AAct.fl]
  · -- pool
    obtain ⟨hpb, hpd, hfull⟩ := hb
    have hlen2 := h.len
    have hsD := sum2_le List.length D hk
    have hsF := sum2_le (fun a => a.fl.length) g.act hk
    simp only [hfl, List.length_cons, List.length_nil] at hsF
    have hsp : pm.pc = .spare → S ≠ [] := fun e => h.pool.spare hg hk (by have := hpb.2; rw [e] at this; exact this.1) (by omega)
    obtain ⟨P', S', own2, hP, hoth, hfar, hres⟩ := h.pool.put hg h.all hi hk hpb ⟨by simp, by simp⟩ hpd hsp
    have hfe : ∀ m : Nat, m < 2 → ∀ j, 0 ≤ j → j < 2 + c.dq → mget (pmStep c g.mem pm).1 (pEnd c m j) = mget g.mem (pEnd c m j) := fun m hm j j0 j1 => by
      have z := pEnd_at hg (hkm m hm) j0 j1
      exact hfar _ (by omega) (by omega) (fun q i q1 q2 i1 i2 => (pEnd_lt hg ⟨by omega, hkm m hm⟩ j0 j1).2 q i q1 q2 i1 i2)
    have hUm : ∀ y ∈ (pmStep c g.mem pm).1, U y := hU'
    have fin2 : ∀ (a : AAct), AoAct c (pmStep c g.mem pm).1 k (D k) own2 a → (∀ y, List.count y (poolL c (pmStep c g.mem pm).1 P') + List.count y a.fl = List.count y (poolL c g.mem P) + List.count y (g.act k).fl) → P'.length + a.fl.length = P.length + (g.act k).fl.length →
        AoInv c (i + 1) { g with mem := (pmStep c g.mem pm).1, act := upd2 g.act k a } P' S' (upd2 own k own2) D Z := fun a hak hc hl => by
      refine ⟨hP, hUm, fun m hm => (h.dq m hm).frame (hfe m hm) hq.1, fun m hm => ?_, fun y => ?_, ?_, h.zlen, h.zr, h.znd⟩
      · by_cases e : m = k
        · subst e; simp only [upd2_same]; exact hak
        · simp only [upd2_other e]
          have r := h.pool.rng hm
          have a2 := h.pool.apart2 hk hm e
          exact (h.job m hm).apt (hfe m hm) (fun us qm hpb hl => hoth us qm _ hpb hl (fun q hq => ⟨(r q hq).1, (r q hq).2, a2 q hq⟩))
      · have e2 := sum2_upd (fun a => List.count y a.fl) g.act a hk
        have e3 := hc y
        have e4 := h.cnt y
        show sum2 (List.count y) D + List.count y (poolL c (pmStep c g.mem pm).1 P') + sum2 (fun a => List.count y a.fl) (upd2 g.act k a) = _
        try simp only at e2
        omega
      · have e2 := sum2_upd (fun a => a.fl.length) g.act a hk
        show sum2 List.length D + P'.length + sum2 (fun a => a.fl.length) (upd2 g.act k a) = _
        try simp only at e2
        omega
    rcases hres with ⟨r1, r2, r3, r4⟩ | ⟨r1, r2, r3, r4⟩
    · have hf : (pmStep c g.mem pm).2.pc.fin = false := sfinP_no r1
      have : aoTurn c k g = { g with mem := (pmStep c g.mem pm).1, act := upd2 g.act k ⟨some ⟨.pool, x, d, (pmStep c g.mem pm).2, sp⟩, (g.act k).left⟩ } := by
        unfold aoTurn; rw [hj]; simp only [amStep, hf]; rfl
      rw [this]
      exact ⟨P', S', _, D, fin2 ⟨some ⟨.pool, x, d, (pmStep c g.mem pm).2, sp⟩, (g.act k).left⟩ ⟨hpar, r2, r1, hfull⟩ (fun y => by rw [r3, hfl]; rfl) (by rw [r4, hfl]; rfl)⟩
    · have hf : (pmStep c g.mem pm).2.pc.fin = true := fin_iff.2 r1
      have : aoTurn c k g = { g with mem := (pmStep c g.mem pm).1, act := upd2 g.act k ⟨none, (g.act k).left⟩ } := by
        unfold aoTurn; rw [hj]; simp only [amStep, hf]; rfl
      rw [this]
      exact ⟨P', S', _, D, fin2 ⟨none, (g.act k).left⟩ r2 (fun y => by rw [r3, hfl]; simp only [AAct.fl, List.count_append, List.count_nil]; omega) (by rw [r4, hfl]; simp [AAct.fl])⟩

/-- One who does nothing, and has tasks left, begins. -/
theorem AoInv.begin (_hg : Good c) (hm2 : 2 ≤ c.mks) (h : AoInv c i g P S own D Z) {k : Nat} (hk : k < 2) (hj : (g.act k).job = none) : AoInv c i (aoBegin c k g) P S own D (((g.next + 1) * 2 + k) :: Z) := by
  have hb := h.job k hk
  have hfl : (g.act k).fl = [] := by unfold AAct.fl; rw [hj]
  unfold AoAct at hb
  rw [hj] at hb
  have hz := h.zlen
  have hn : newAM c k ((g.next + 1) * 2 + k) = ⟨.own, (g.next + 1) * 2 + k, ⟨.pushBottom, 0, 0, (g.next + 1) * 2 + k, 0, false⟩, putOne ((g.next + 1) * 2 + k), false⟩ := by unfold newAM; rw [if_pos ⟨by omega, by omega⟩]
  unfold aoBegin
  rw [hn]
  have hfa : (⟨some ⟨.own, (g.next + 1) * 2 + k, ⟨.pushBottom, 0, 0, (g.next + 1) * 2 + k, 0, false⟩, putOne ((g.next + 1) * 2 + k), false⟩, (g.act k).left - 1⟩ : AAct).fl = [(g.next + 1) * 2 + k] := rfl
  have hak : AoAct c g.mem k (D k) (own k) ⟨some ⟨.own, (g.next + 1) * 2 + k, ⟨.pushBottom, 0, 0, (g.next + 1) * 2 + k, 0, false⟩, putOne ((g.next + 1) * 2 + k), false⟩, (g.act k).left - 1⟩ := ⟨by show ((g.next + 1) * 2 + (k : Int)) % 2 = k; omega, hb, rfl, rfl, trivial⟩
  generalize (⟨some ⟨.own, (g.next + 1) * 2 + k, ⟨.pushBottom, 0, 0, (g.next + 1) * 2 + k, 0, false⟩, putOne ((g.next + 1) * 2 + k), false⟩, (g.act k).left - 1⟩ : AAct) = a at hfa hak ⊢
  refine ⟨h.pool, h.all, h.dq, fun m hm => ?_, fun y => ?_, ?_, ?_, fun y hy => ?_, ?_⟩
  · by_cases e : m = k
    · subst e; simp only [upd2_same]; exact hak
    · simp only [upd2_other e]; exact h.job m hm
  · have e2 := sum2_upd (fun a => List.count y a.fl) g.act a hk
    have e4 := h.cnt y
    show sum2 (List.count y) D + List.count y (poolL c g.mem P) + sum2 (fun a => List.count y a.fl) (upd2 g.act k a) = _
    simp only [hfa, hfl, List.count_nil, List.count_cons] at e2
    rw [List.count_cons]
    generalize (if ((g.next + 1) * 2 + (k : Int) == y) = true then 1 else 0) = v at *
    omega
  · have e2 := sum2_upd (fun a => a.fl.length) g.act a hk
    have e4 := h.len
    show sum2 List.length D + P.length + sum2 (fun a => a.fl.length) (upd2 g.act k a) = _
    simp only [hfa, hfl, List.length_cons, List.length_nil] at e2 ⊢
    omega
  · show ((((g.next + 1) * 2 + k) :: Z).length : Int) = g.next + 1
    simp only [List.length_cons]; omega
  · show 2 ≤ y ∧ y ≤ 2 * (g.next + 1) + 1
    rcases List.mem_cons.1 hy with rfl | hy
    · omega
    · have := h.zr y hy; omega
  · refine List.nodup_cons.2 ⟨fun e => ?_, h.znd⟩
    have := h.zr _ e; omega

end

end Go.Proofs.Ytfbcadknimfhjaa

namespace Go.Proofs.Ytfbcadknimfhjaa
open Go.RowKit

section
variable {c : Cfg} {i : Int} {g : AG} {P S : List Int} {own D : Nat → List Int} {Z : List Int} {u : Nat → Nat}

/-- How a step of one brings all further. -/
theorem AFar.next {k : Nat} (hk : k < 2) (hF : AFar c u g) (hj : (g.act k).job ≠ none) {mem' : List Int} {a : AAct} (hl : a.left = (g.act k).left)
    (h1 : a.phi c (botN c mem' k) + a.stale mem' + 1 ≤ (g.act k).phi c (botN c g.mem k) + (g.act k).stale g.mem ∨ a.job = none ∧ a.left = 0) (h2 : a.tA ≤ (g.act k).tA)
    (h3 : ∀ m, m < 2 → m ≠ k → botN c mem' m = botN c g.mem m) (h4 : a.tA + 1 ≤ (g.act k).tA ∨ ∀ m, m < 2 → m ≠ k → (g.act m).stale mem' = (g.act m).stale g.mem) : AFar c (upd2 u k (u k + 1)) { g with mem := mem', act := upd2 g.act k a } := by
  have hs := sum2_upd AAct.tA g.act a hk
  intro m hm hw
  show ((upd2 g.act k a) m).phi c (botN c mem' m) + ((upd2 g.act k a) m).stale mem' + 3 * sum2 AAct.tA (upd2 g.act k a) + upd2 u k (u k + 1) m ≤ 68 + 3 * ((upd2 g.act k a) m).tA
  by_cases e : m = k
  · subst e
    simp only [upd2_same] at hw ⊢
    have := hF m hm (.inl hj)
    rcases h1 with h1 | ⟨e1, e2⟩
    · omega
    · rcases hw with hw | hw
      · exact absurd e1 hw
      · omega
  · simp only [upd2_other e] at hw ⊢
    have := hF m hm hw
    rw [h3 m hm e]
    rcases h4 with h4 | h4
    · have := (g.act m).stale_le mem'
      omega
    · rw [h4 m hm e]
      omega

theorem AoInv.far {am : AM} (hg : Good c) (hm2 : 2 ≤ c.mks) (h : AoInv c i g P S own D Z) (hF : AFar c u g) {k : Nat} (hk : k < 2) (hj : (g.act k).job = some am) (hi : i < 4294967295) (hz : (Z.length : Int) ≤ manyI c) : AFar c (upd2 u k (u k + 1)) (aoTurn c k g) := by
  have hq : 2 ≤ c.dq ∧ c.dq ≤ 8 := by unfold Good at hg; omega
  have hkm : ∀ m : Nat, m < 2 → (m : Int) < c.mks := fun m hm => by omega
  have hA := allI_bound hg
  have hlen := h.pool.inv.len
  have hb := h.job k hk
  have hD := h.dq k hk
  have hle := hD.le
  have hbn : botN c g.mem k = (D k).length := by unfold botN; rw [hD.bot]; omega
  have hfl : (g.act k).fl = [am.task] := by unfold AAct.fl; rw [hj]
  have hj0 : (g.act k).job ≠ none := by rw [hj]; simp
  unfold AoAct at hb
  rw [hj] at hb
  obtain ⟨hpar, hb⟩ := hb
  obtain ⟨pc, x, d, pm, sp⟩ := am
  simp only at hpar hb hfl
  obtain ⟨l, hl⟩ : ∃ l, (g.act k).left = l := ⟨_, rfl⟩
  have stSame : ∀ mem', mget mem' 4 = mget g.mem 4 → mget mem' 5 = mget g.mem 5 → ∀ m, m < 2 → m ≠ k → (g.act m).stale mem' = (g.act m).stale g.mem := fun mem' a4 a5 m hm _ => by
    have hbm := h.job m hm
    unfold AoAct at hbm
    unfold AAct.stale
    cases hjm : (g.act m).job with
    | none => rfl
    | some bm =>
      rw [hjm] at hbm
      obtain ⟨_, hbm⟩ := hbm
      cases hpc : bm.pc with
      | done => simp only [hpc]
      | own => simp only [hpc]
      | pool =>
        simp only [hpc]
        rw [hpc] at hbm
        have hh := hbm.1.2
        refine PM.stale_frm (fun e => ?_) a4 a5
        rcases e with e | e <;> rw [e] at hh
        · exact .inr hh.2.2.1
        · exact .inl hh.2.2.1
  have stApt : ∀ mem', Apt c g.mem mem' → ∀ m, m < 2 → m ≠ k → (g.act m).stale mem' = (g.act m).stale g.mem := fun mem' ha => stSame mem' ha.h4 ha.h5
  cases pc <;> simp only at hb
  · obtain ⟨ho, rfl, hd⟩ := hb
    have ph : (g.act k).phi c (botN c g.mem k) = 10 * l - 6 * min l (2 - min (if ((D k).length : Int) < c.dq then (D k).length + 1 else (D k).length) 2) + dqLeft c (D k).length d := by
      unfold AAct.phi AAct.will AAct.jobLeft; rw [hj, hbn, hl]
    have st : (g.act k).stale g.mem = 0 := by unfold AAct.stale; rw [hj]
    have ta : (g.act k).tA = 2 * l + 2 := by unfold AAct.tA; rw [hj, hl]
    rcases own_cases (pm := putOne x) (sp := sp) hg (hkm k hk) hD hd with ⟨d', e, hd', hdl⟩ | ⟨d', e, hr, hdl⟩ | ⟨d', e, hr, hd', hdl⟩ | ⟨d', e, hr, he, hdl⟩
    · have : aoTurn c k g = { g with mem := g.mem, act := upd2 g.act k ⟨some ⟨.own, x, d', putOne x, sp⟩, (g.act k).left⟩ } := by
        unfold aoTurn; rw [hj]; simp only [e]; rfl
      rw [this]
      refine AFar.next hk hF hj0 rfl (.inl ?_) ?_ (fun _ _ _ => rfl) (.inr fun _ _ _ => rfl)
      · rw [ph, st, hbn, hl]
        simp only [AAct.phi, AAct.will, AAct.jobLeft, AAct.stale]
        omega
      · rw [ta, hl]; exact Nat.le_refl _
    · have : aoTurn c k g = { g with mem := g.mem, act := upd2 g.act k ⟨some ⟨.pool, x, d', putOne x, true⟩, (g.act k).left⟩ } := by
        unfold aoTurn; rw [hj]; simp only [e]; rfl
      rw [this]
      refine AFar.next hk hF hj0 rfl (.inl ?_) ?_ (fun _ _ _ => rfl) (.inr fun _ _ _ => rfl)
      · rw [ph, st, hbn, hl, if_neg (by omega)]
        have : (putOne x).stale g.mem = 0 := by simp [PM.stale, staleS]
        simp only [AAct.phi, AAct.will, AAct.jobLeft, AAct.stale, this]
        have : (putOne x).left = 8 := rfl
        rw [this]
        omega
      · rw [ta, hl]; exact Nat.le_refl _
    · have : aoTurn c k g = { g with mem := mput g.mem (pEnd c k (2 + (D k).length)) x, act := upd2 g.act k ⟨some ⟨.own, x, d', putOne x, sp⟩, (g.act k).left⟩ } := by
        unfold aoTurn; rw [hj]; simp only [e]; rfl
      rw [this]
      have hbm : ∀ m, m < 2 → botN c (mput g.mem (pEnd c k (2 + (D k).length)) x) m = botN c g.mem m := fun m hm => by
        unfold botN
        rw [mget_other (pEnd_inj hg (hkm m hm) (hkm k hk) hm hk (by omega) (by omega) (by omega) (by omega) (.inr (by omega)))]
      refine AFar.next hk hF hj0 rfl (.inl ?_) ?_ (fun m hm _ => hbm m hm) (.inr (stApt _ (pEnd_apt hg (hkm k hk) (by omega) (by omega))))
      · rw [ph, st, hbm k hk, hbn, hl]
        have : dqLeft c (D k).length d' = 1 := by unfold dqLeft; rw [hd'.2.1]
        simp only [AAct.phi, AAct.will, AAct.jobLeft, AAct.stale, this]
        omega
      · rw [ta, hl]; exact Nat.le_refl _
    · have : aoTurn c k g = { g with mem := mput g.mem (pEnd c k 1) ((D k).length + 1), act := upd2 g.act k ⟨none, (g.act k).left⟩ } := by
        unfold aoTurn; rw [hj]; simp only [e]; rfl
      rw [this]
      have z1 := pEnd_at hg (hkm k hk) (j := 1) (by omega) (by omega)
      have w1 := pEnd_lt hg ⟨by omega, hkm k hk⟩ (k := (k : Int)) (j := 1) (by omega) (by omega)
      have hbk : botN c (mput g.mem (pEnd c k 1) ((D k).length + 1)) k = (D k).length + 1 := by
        unfold botN; rw [mget_put (by omega)]; omega
      refine AFar.next hk hF hj0 rfl (.inl ?_) ?_ (fun m hm hn => ?_) (.inr (stApt _ (pEnd_apt hg (hkm k hk) (by omega) (by omega))))
      · rw [ph, st, hbk, hl, if_pos hr]
        simp only [AAct.phi, AAct.will, AAct.jobLeft, AAct.stale]
        omega
      · rw [ta, hl]; show 2 * l + 0 ≤ _; omega
      · unfold botN
        rw [mget_other (pEnd_inj hg (hkm m hm) (hkm k hk) hm hk (by omega) (by omega) (by omega) (by omega) (.inl hn))]
  · obtain ⟨hpb, hpd, hfull⟩ := hb
    have hlen2 := h.len
    have hsD := sum2_le List.length D hk
    have hsF := sum2_le (fun a => a.fl.length) g.act hk
    simp only [hfl, List.length_cons, List.length_nil] at hsF
    have hsp : pm.pc = .spare → S ≠ [] := fun e => h.pool.spare hg hk (by have := hpb.2; rw [e] at this; exact this.1) (by omega)
    obtain ⟨l1, l2, l3⟩ := pm_less hg h.pool.inv h.all hpb (fun us e => by cases e; rfl) (h.pool.rng hk) hsp hpd
    obtain ⟨_, _, _, _, _, hfar, _⟩ := h.pool.put hg h.all hi hk hpb ⟨by simp, by simp⟩ hpd hsp
    have hbm : ∀ m, m < 2 → botN c (pmStep c g.mem pm).1 m = botN c g.mem m := fun m hm => by
      have z := pEnd_at hg (hkm m hm) (j := 1) (by omega) (by omega)
      unfold botN
      rw [hfar _ (by omega) (by omega) (fun q i q1 q2 i1 i2 => (pEnd_lt hg ⟨by omega, hkm m hm⟩ (by omega) (by omega)).2 q i q1 q2 i1 i2)]
    have ph : (g.act k).phi c (botN c g.mem k) = 10 * l - 6 * min l (2 - min (D k).length 2) + pm.left := by
      unfold AAct.phi AAct.will AAct.jobLeft; rw [hj, hbn, hl]
    have st : (g.act k).stale g.mem = pm.stale g.mem := by unfold AAct.stale; rw [hj]
    have ta : (g.act k).tA = 2 * l + pm.turns := by unfold AAct.tA; rw [hj, hl]
    have tp : 1 ≤ pm.turns := by
      revert hpd
      unfold PM.turns
      cases pm.pc <;> simp
    have lp : 1 ≤ pm.left := by
      have hh := hpb.2
      unfold PM.left
      cases e : pm.pc <;> rw [e] at hh <;> simp only at hh ⊢
      · exact absurd e hpd
      · omega
      · omega
      · omega
      · have := hh.2.2.2.2
        revert this
        cases pm.x.pc <;> simp [SPc.left]
    have h4 : ∀ t, t ≤ (pmStep c g.mem pm).2.turns → 2 * l + t + 1 ≤ 2 * l + pm.turns ∨ ∀ m, m < 2 → m ≠ k → (g.act m).stale (pmStep c g.mem pm).1 = (g.act m).stale g.mem := fun t ht => by
      rcases l3 with ⟨a4, a5⟩ | l3
      · exact .inr (stSame _ a4 a5)
      · exact .inl (by omega)
    cases hf : (pmStep c g.mem pm).2.pc.fin
    · have hn : (pmStep c g.mem pm).2.pc ≠ .done := fun e => by rw [e] at hf; cases hf
      have : aoTurn c k g = { g with mem := (pmStep c g.mem pm).1, act := upd2 g.act k ⟨some ⟨.pool, x, d, (pmStep c g.mem pm).2, sp⟩, (g.act k).left⟩ } := by
        unfold aoTurn; rw [hj]; simp only [amStep, hf]; rfl
      rw [this]
      have := l1 hn
      refine AFar.next hk hF hj0 rfl (.inl ?_) ?_ (fun m hm _ => hbm m hm) ?_
      · rw [ph, st, hbm k hk, hbn, hl]
        simp only [AAct.phi, AAct.will, AAct.jobLeft, AAct.stale]
        omega
      · rw [ta, hl]; show 2 * l + (pmStep c g.mem pm).2.turns ≤ _; omega
      · rw [ta, hl]; exact h4 _ (Nat.le_refl _)
    · have : aoTurn c k g = { g with mem := (pmStep c g.mem pm).1, act := upd2 g.act k ⟨none, (g.act k).left⟩ } := by
        unfold aoTurn; rw [hj]; simp only [amStep, hf]; rfl
      rw [this]
      refine AFar.next hk hF hj0 rfl (.inl ?_) ?_ (fun m hm _ => hbm m hm) (.inl ?_)
      · rw [ph, st, hbm k hk, hbn, hl]
        simp only [AAct.phi, AAct.will, AAct.jobLeft, AAct.stale]
        omega
      · rw [ta, hl]; show 2 * l + 0 ≤ _; omega
      · rw [ta, hl]; show 2 * l + 0 + 1 ≤ _; omega

/-- Who begins is as far from the end as ahead of it. -/
theorem AFar.begin (hg : Good c) (hm2 : 2 ≤ c.mks) (hF : AFar c u g) {k : Nat} (hk : k < 2) (hj : (g.act k).job = none) (hl : 0 < (g.act k).left) : AFar c u (aoBegin c k g) := by
  have hq : 2 ≤ c.dq ∧ c.dq ≤ 8 := by unfold Good at hg; omega
  obtain ⟨l, e⟩ : ∃ l, (g.act k).left = l := ⟨_, rfl⟩
  rw [e] at hl
  have hn : newAM c k ((g.next + 1) * 2 + k) = ⟨.own, (g.next + 1) * 2 + k, ⟨.pushBottom, 0, 0, (g.next + 1) * 2 + k, 0, false⟩, putOne ((g.next + 1) * 2 + k), false⟩ := by unfold newAM; rw [if_pos ⟨by omega, by omega⟩]
  unfold aoBegin
  rw [hn, e]
  have hs := sum2_upd AAct.tA g.act ⟨some ⟨.own, (g.next + 1) * 2 + k, ⟨.pushBottom, 0, 0, (g.next + 1) * 2 + k, 0, false⟩, putOne ((g.next + 1) * 2 + k), false⟩, l - 1⟩ hk
  have t1 : (g.act k).tA = 2 * l := by unfold AAct.tA; rw [hj, e]; rfl
  have t2 : (⟨some ⟨.own, (g.next + 1) * 2 + k, ⟨.pushBottom, 0, 0, (g.next + 1) * 2 + k, 0, false⟩, putOne ((g.next + 1) * 2 + k), false⟩, l - 1⟩ : AAct).tA = 2 * (l - 1) + 2 := rfl
  have p1 : (g.act k).phi c (botN c g.mem k) = 10 * l - 6 * min l (2 - min (botN c g.mem k) 2) + 0 := by unfold AAct.phi AAct.will AAct.jobLeft; rw [hj, e]
  have s1 : (g.act k).stale g.mem = 0 := by unfold AAct.stale; rw [hj]
  have p2 : (⟨some ⟨.own, (g.next + 1) * 2 + k, ⟨.pushBottom, 0, 0, (g.next + 1) * 2 + k, 0, false⟩, putOne ((g.next + 1) * 2 + k), false⟩, l - 1⟩ : AAct).phi c (botN c g.mem k) + (⟨some ⟨.own, (g.next + 1) * 2 + k, ⟨.pushBottom, 0, 0, (g.next + 1) * 2 + k, 0, false⟩, putOne ((g.next + 1) * 2 + k), false⟩, l - 1⟩ : AAct).stale g.mem ≤ (g.act k).phi c (botN c g.mem k) := by
    rw [p1]
    simp only [AAct.phi, AAct.will, AAct.jobLeft, AAct.stale, dqLeft]
    split <;> omega
  intro m hm hw
  show ((upd2 g.act k _) m).phi c (botN c g.mem m) + ((upd2 g.act k _) m).stale g.mem + 3 * sum2 AAct.tA (upd2 g.act k _) + u m ≤ 68 + 3 * ((upd2 g.act k _) m).tA
  by_cases e2 : m = k
  · subst e2
    simp only [upd2_same]
    have := hF m hm (.inr (by omega))
    omega
  · simp only [upd2_other e2] at hw ⊢
    have := hF m hm hw
    omega

theorem AFar.start (many : Nat) (hm : many ≤ 5) (_hg : Good c) (mem : List Int) (h0 : ∀ k : Nat, k < 2 → mget mem (pEnd c k 1) = 0) : AFar c (fun _ => 0) ⟨mem, 0, fun _ => ⟨none, many⟩⟩ := by
  intro k hk _
  have hb : botN c mem k = 0 := by unfold botN; rw [h0 k hk]; rfl
  show (⟨none, many⟩ : AAct).phi c (botN c mem k) + (⟨none, many⟩ : AAct).stale mem + 3 * sum2 AAct.tA (fun _ => ⟨none, many⟩) + 0 ≤ 68 + 3 * (⟨none, many⟩ : AAct).tA
  rw [hb]
  simp only [AAct.phi, AAct.will, AAct.jobLeft, AAct.stale, AAct.tA, sum2]
  omega

theorem AFar.over (hF : AFar c u g) {k : Nat} (hk : k < 2) (hu : 69 ≤ u k) : (g.act k).job = none ∧ (g.act k).left = 0 := by
  have hs := sum2_le AAct.tA g.act hk
  by_cases e : (g.act k).job ≠ none ∨ 0 < (g.act k).left
  · have := hF k hk e
    omega
  · exact ⟨Classical.byContradiction fun x => e (.inl x), by
      have : ¬ 0 < (g.act k).left := fun x => e (.inr x)
      omega⟩

end

end Go.Proofs.Ytfbcadknimfhjaa

namespace Go.Proofs.Ytfbcadknimfhjaa
open Go.RowKit

theorem upL_has {n : Nat} {p q : Int} (h1 : p ≤ q) (h2 : q < p + n) : q ∈ upL p n := by
  induction n generalizing p with
  | zero => omega
  | succ n ih =>
    rw [upL]
    by_cases e : q = p
    · subst e; simp
    · exact List.mem_cons_of_mem _ (ih (by omega) (by omega))

theorem upL_count {c : Cfg} (hg : Good c) (q : Int) : List.count q (upL 1 (manyI c).toNat) = if 1 ≤ q ∧ q ≤ manyI c then 1 else 0 := by
  have hmb := manyI_bound hg
  by_cases h : 1 ≤ q ∧ q ≤ manyI c
  · rw [if_pos h, (upL_nodup 1 _).count, if_pos (upL_has h.1 (by omega))]
  · rw [if_neg h, (upL_nodup 1 _).count, if_neg (fun e => by have := upL_mem _ e; omega)]

theorem heads_first {c : Cfg} (hg : Good c) : mget (firstL c) 4 = 0 ∧ mget (firstL c) 5 = 1 := by
  have hmb := manyI_bound hg
  have hn := nN_bound hg
  obtain ⟨k4, k5, _⟩ := linkTo_get hg (manyI c - 1).toNat (by omega)
  have fg := fun a ha => freeTo_get hg (nN c - 1) (by omega) a ha
  unfold firstL
  exact ⟨by rw [fg 4 (.inl (by omega)), k4], by rw [fg 5 (.inl (by omega)), k5]⟩

/-- All that there is at first. -/
def ag0 (c : Cfg) (many : Nat) : AG := ⟨firstL c, 0, fun _ => ⟨none, many⟩⟩

theorem AoInv.init {c : Cfg} (hg : Good c) (hm2 : 2 ≤ c.mks) (many : Nat) (hall : ∀ x ∈ firstL c, U x) : AoInv c 0 (ag0 c many) [] (upL 1 (manyI c).toNat) (fun _ => []) (fun _ => []) [] := by
  have hq : 2 ≤ c.dq ∧ c.dq ≤ 8 := by unfold Good at hg; omega
  obtain ⟨e4, e5⟩ := heads_first hg
  refine ⟨Pool2.init hg e4 e5 (upL_count hg), hall, fun k hk => ⟨firstL_end hg ⟨by omega, by omega⟩ (by omega) (by omega), firstL_end hg ⟨by omega, by omega⟩ (by omega) (by omega), fun j hj => (by cases hj), by simp; omega, fun x hx => (by cases hx)⟩, fun k _ => rfl, fun x => rfl, rfl, rfl, fun x hx => (by cases hx), List.nodup_nil⟩

section
variable {c : Cfg} {k : Nat} {g : AG}

theorem aoTurn_next : (aoTurn c k g).next = g.next := by
  unfold aoTurn; split <;> rfl

theorem aoTurn_left (m : Nat) : ((aoTurn c k g).act m).left = (g.act m).left := by
  unfold aoTurn
  split
  · rfl
  · simp only [upd2]; split
    · next e => rw [e]
    · rfl

theorem aoTurn_nil (hj : (g.act k).job = none) : aoTurn c k g = g := by unfold aoTurn; rw [hj]

theorem aoTurn_more {am : AM} (hj : (g.act k).job = some am) (hf : (amStep c k g.mem am).2.pc.fin = false) : aoTurn c k g = { g with mem := (amStep c k g.mem am).1, act := upd2 g.act k { g.act k with job := some (amStep c k g.mem am).2 } } := by
  unfold aoTurn; rw [hj]; simp [hf]

theorem aoTurn_done {am : AM} (hj : (g.act k).job = some am) (hf : (amStep c k g.mem am).2.pc.fin = true) : aoTurn c k g = { g with mem := (amStep c k g.mem am).1, act := upd2 g.act k ⟨none, (g.act k).left⟩ } := by
  unfold aoTurn; rw [hj]; simp [hf]

end

/-- How many tasks there are in all. -/
def AoSum (many : Nat) (g : AG) : Prop := g.next + (g.act 0).left + (g.act 1).left = 2 * many

theorem AoSum.turn {c : Cfg} {k many : Nat} {g : AG} (h : AoSum many g) : AoSum many (aoTurn c k g) := by
  unfold AoSum at *
  rw [aoTurn_next, aoTurn_left, aoTurn_left]; exact h

theorem AoSum.begin {c : Cfg} {k many : Nat} {g : AG} (h : AoSum many g) (hk : k < 2) (hl : 0 < (g.act k).left) : AoSum many (aoBegin c k g) := by
  unfold AoSum aoBegin at *
  have : k = 0 ∨ k = 1 := by omega
  rcases this with rfl | rfl <;> simp only [upd2] <;> simp <;> omega

/-- In the end each task is in one place. -/
theorem AoInv.end {c : Cfg} {i : Int} {g : AG} {P S : List Int} {own D : Nat → List Int} {Z : List Int} {many : Nat} (h : AoInv c i g P S own D Z) (hs : AoSum many g) (hm : many ≤ 5) (hi : ∀ k, k < 2 → (g.act k).job = none ∧ (g.act k).left = 0) :
    (∀ x, List.count x (poolL c g.mem P ++ D 0 ++ D 1) ≤ 1) ∧ (∀ x ∈ poolL c g.mem P ++ D 0 ++ D 1, 2 ≤ x ∧ x < 40) ∧ (poolL c g.mem P ++ D 0 ++ D 1).length = 2 * many := by
  have e0 : ∀ k, k < 2 → (g.act k).fl = [] := fun k hk => by unfold AAct.fl; rw [(hi k hk).1]
  have hc : ∀ x, List.count x (poolL c g.mem P ++ D 0 ++ D 1) = List.count x Z := fun x => by
    have := h.cnt x
    simp only [sum2, e0 0 (by omega), e0 1 (by omega), List.count_nil] at this
    rw [List.count_append, List.count_append]; omega
  have hp : (poolL c g.mem P ++ D 0 ++ D 1).Perm Z := List.perm_iff_count.2 hc
  have hn : g.next = 2 * many := by
    unfold AoSum at hs
    rw [(hi 0 (by omega)).2, (hi 1 (by omega)).2] at hs
    omega
  refine ⟨fun x => by rw [hc]; exact List.nodup_iff_count.1 h.znd x, fun x hx => ?_, ?_⟩
  · have := h.zr x (hp.mem_iff.1 hx); omega
  · rw [hp.length_eq]
    have := h.zlen; omega

/-- How often each number is in a list of numbers below n: in all, its length. -/
def sumTo2 (f : Nat → Int) : Nat → Int
  | 0 => 0
  | n + 1 => sumTo2 f n + f n

theorem sum_count (l : List Int) (n : Nat) (h : ∀ x ∈ l, 0 ≤ x ∧ x < n) : sumTo2 (fun j => (List.count (j : Int) l : Nat)) n = l.length := by
  induction l with
  | nil =>
    have : ∀ n, sumTo2 (fun j => ((List.count (j : Int) ([] : List Int) : Nat) : Int)) n = 0 := fun n => by
      induction n with
      | zero => rfl
      | succ n ih =>
        show sumTo2 (fun j => ((List.count (j : Int) ([] : List Int) : Nat) : Int)) n + ((List.count (n : Int) ([] : List Int) : Nat) : Int) = 0
        rw [ih]; rfl
    rw [this]; rfl
  | cons x l ih =>
    have hx := h x (by simp)
    have key : ∀ m : Nat, sumTo2 (fun j => ((List.count (j : Int) (x :: l) : Nat) : Int)) m = sumTo2 (fun j => ((List.count (j : Int) l : Nat) : Int)) m + if x < m then 1 else 0 := fun m => by
      induction m with
      | zero => simp only [sumTo2]; rw [if_neg (by omega)]; rfl
      | succ m ihm =>
        show sumTo2 (fun j => ((List.count (j : Int) (x :: l) : Nat) : Int)) m + ((List.count (m : Int) (x :: l) : Nat) : Int) = sumTo2 (fun j => ((List.count (j : Int) l : Nat) : Int)) m + ((List.count (m : Int) l : Nat) : Int) + if x < ((m + 1 : Nat) : Int) then 1 else 0
        rw [ihm, List.count_cons]
        by_cases e : x = m
        · rw [if_neg (show ¬ x < (m : Int) by omega), if_pos (show (x == (m : Int)) = true by simpa using e), if_pos (show x < ((m + 1 : Nat) : Int) by omega)]; omega
        · rw [if_neg (show ¬ ((x == (m : Int)) = true) by simpa using e)]
          by_cases e2 : x < m
          · rw [if_pos e2, if_pos (show x < ((m + 1 : Nat) : Int) by omega)]; omega
          · rw [if_neg e2, if_neg (show ¬ x < ((m + 1 : Nat) : Int) by omega)]; omega
    rw [key n, ih (fun y hy => h y (by simp [hy])), if_pos hx.2]
    simp

/-- How many steps each has made since the L-th. -/
def uA (L i : Nat) (k : Nat) : Nat := (i + 1 - k) / 2 - (L + 1 - k) / 2

theorem uA_start (L k : Nat) : uA L L k = 0 := by unfold uA; omega

theorem uA_end (L k : Nat) (hk : k < 2) : uA L (L + 160) k = 80 := by unfold uA; omega

theorem AFar.congr {c : Cfg} {u v : Nat → Nat} {g : AG} (h : AFar c u g) (e : ∀ k, k < 2 → v k = u k) : AFar c v g := fun k hk hw => by
  rw [e k hk]; exact h k hk hw

theorem uA_step {L i k : Nat} (hL : L ≤ i) (hk : k = i % 2) (j : Nat) (hj : j < 2) : uA L (i + 1) j = upd2 (uA L i) k (uA L i k + 1) j := by
  by_cases e : j = k
  · subst e
    rw [upd2_same]
    unfold uA; omega
  · rw [upd2_other e]
    unfold uA; omega

theorem AFar.weak {c : Cfg} {u v : Nat → Nat} {g : AG} (h : AFar c u g) (e : ∀ k, k < 2 → v k ≤ u k) : AFar c v g := fun k hk hw => by
  have := h k hk hw
  have := e k hk
  omega

theorem uA_next {L i k : Nat} (hk : L ≤ i → k = i % 2) (j : Nat) (hj : j < 2) : uA L (i + 1) j ≤ upd2 (uA L i) k (uA L i k + 1) j := by
  by_cases hL : L ≤ i
  · rw [uA_step hL (hk hL) j hj]; exact Nat.le_refl _
  · have : uA L (i + 1) j = 0 := by unfold uA; omega
    omega

/-- What holds, if there are packets enough. -/
def AoAll (c : Cfg) (L i : Nat) (g : AG) : Prop := ∃ P S own D Z, AoInv c i g P S own D Z ∧ AFar c (uA L i) g

theorem AoAll.init {c : Cfg} (hg : Good c) (hm2 : 2 ≤ c.mks) {many L : Nat} (hm : many ≤ 5) (hall : ∀ x ∈ firstL c, U x) : AoAll c L 0 (ag0 c many) :=
  have hq : 2 ≤ c.dq ∧ c.dq ≤ 8 := by unfold Good at hg; omega
  ⟨_, _, _, _, _, AoInv.init hg hm2 many hall, (AFar.start many hm hg (firstL c) (fun k hk => firstL_end hg ⟨by omega, by omega⟩ (by omega) (by omega))).weak (fun k hk => by unfold uA; omega)⟩

theorem AoAll.begin {c : Cfg} {L i k : Nat} {g : AG} (h : AoAll c L i g) (hg : Good c) (hm2 : 2 ≤ c.mks) (hk : k < 2) (hj : (g.act k).job = none) (hl : 0 < (g.act k).left) : AoAll c L i (aoBegin c k g) := by
  obtain ⟨P, S, own, D, Z, h1, h2⟩ := h
  exact ⟨P, S, own, D, _, h1.begin hg hm2 hk hj, h2.begin hg hm2 hk hj hl⟩

theorem AoAll.idle {c : Cfg} {L i k : Nat} {g : AG} (h : AoAll c L i g) (hk : k < 2) (hki : L ≤ i → k = i % 2) (hj : (g.act k).job = none) (hl : (g.act k).left = 0) : AoAll c L (i + 1) g := by
  obtain ⟨P, S, own, D, Z, h1, h2⟩ := h
  refine ⟨P, S, own, D, Z, ⟨h1.pool.later (by omega), h1.all, h1.dq, h1.job, h1.cnt, h1.len, h1.zlen, h1.zr, h1.znd⟩, fun m hm hw => ?_⟩
  have hn := uA_next hki m hm
  by_cases e : m = k
  · subst e
    rcases hw with hw | hw
    · exact absurd hj hw
    · omega
  · rw [upd2_other e] at hn
    have := h2 m hm hw
    omega

theorem AoAll.turn {c : Cfg} {L i k many : Nat} {g : AG} {am : AM} (h : AoAll c L i g) (hs : AoSum many g) (hH : 2 * (many : Int) ≤ manyI c) (hg : Good c) (hm2 : 2 ≤ c.mks) (hi : i < 100000) (hk : k < 2) (hki : L ≤ i → k = i % 2) (hj : (g.act k).job = some am) (hU' : ∀ x ∈ (amStep c k g.mem am).1, U x) : AoAll c L (i + 1) (aoTurn c k g) := by
  obtain ⟨P, S, own, D, Z, h1, h2⟩ := h
  have hz : (Z.length : Int) ≤ manyI c := by
    have := h1.zlen
    unfold AoSum at hs; omega
  obtain ⟨P', S', own', D', h3⟩ := h1.turn hg hm2 (by omega) hk hj hU' hz
  exact ⟨P', S', own', D', Z, by have e : ((i + 1 : Nat) : Int) = (i : Int) + 1 := by omega
                                 rw [e]; exact h3, (h1.far hg hm2 h2 hk hj (by omega) hz).weak (uA_next hki)⟩

end Go.Proofs.Ytfbcadknimfhjaa

namespace Go.Proofs.Ytfbcadknimfhjaa
open Go.RowKit

/-- The pool's tasks, then those of the first deques. -/
def upToL (T : List Int) (D : Nat → List Int) : Nat → List Int
  | 0 => T
  | k + 1 => upToL T D k ++ D k

structure AoEnd (c : Cfg) (mem : List Int) (T : List Int) (D : Nat → List Int) (many : Nat) : Prop where
  held : heldL c mem = T
  bot : ∀ k : Nat, k < 2 → mget mem (pEnd c k 1) = (D k).length
  ent : ∀ k : Nat, k < 2 → ∀ j : Nat, j < (D k).length → mget mem (pEntry c k j) = (D k)[j]?.getD 0
  par : ∀ k : Nat, k < 2 → ∀ x ∈ D k, x % 2 = k
  cnt : ∀ x, List.count x (upToL T D 2) ≤ 1
  rng : ∀ x ∈ upToL T D 2, 2 ≤ x ∧ x < 40
  len : (upToL T D 2).length = 2 * many
  tlen : T.length ≤ 10 ∧ ∀ k : Nat, k < 2 → (D k).length ≤ 10 ∧ (upToL T D k).length ≤ 10

theorem AoAll.end {c : Cfg} {L many : Nat} {g : AG} (h : AoAll c L (L + 160) g) (hg : Good c) (_hm2 : 2 ≤ c.mks) (hs : AoSum many g) (hm : many ≤ 5) : ∃ T D, AoEnd c g.mem T D many := by
  obtain ⟨P, S, own, D, Z, h1, h2⟩ := h
  have hi : ∀ k, k < 2 → (g.act k).job = none ∧ (g.act k).left = 0 := fun k hk => h2.over hk (by rw [uA_end L k hk]; omega)
  obtain ⟨a, b, d⟩ := h1.end hs hm hi
  have d' := d
  rw [List.length_append, List.length_append] at d'
  refine ⟨poolL c g.mem P, D, h1.pool.held hg, fun k hk => (h1.dq k hk).bot, fun k hk j hj => ?_, fun k hk => (h1.dq k hk).par, a, b, d, by omega, fun k hk => ?_⟩
  · have hle := (h1.dq k hk).le
    rw [← (h1.dq k hk).ents j hj, pEntry, if_pos (by omega)]
  · have : k = 0 ∨ k = 1 := by omega
    rcases this with rfl | rfl <;> simp only [upToL, List.length_append] <;> omega

theorem AoEnd.parAt {c : Cfg} {mem T : List Int} {D : Nat → List Int} {many : Nat} (h : AoEnd c mem T D many) {k j : Nat} (hk : k < 2) (hj : j < (D k).length) : ((D k)[j]?.getD 0) % 2 = k ∧ 2 ≤ (D k)[j]?.getD 0 ∧ (D k)[j]?.getD 0 < 40 := by
  rw [List.getElem?_eq_getElem hj, Option.getD_some]
  have hmem : (D k)[j] ∈ D k := List.getElem_mem _
  refine ⟨h.par k hk _ hmem, h.rng _ ?_⟩
  have : k = 0 ∨ k = 1 := by omega
  rcases this with rfl | rfl <;> simp only [upToL, List.mem_append]
  · exact .inl (.inr hmem)
  · exact .inr hmem

theorem take_next {l : List Int} {j : Nat} (hj : j < l.length) : l.take (j + 1) = l.take j ++ [l[j]?.getD 0] := by
  rw [List.take_add_one, List.getElem?_eq_getElem hj]; rfl

theorem seen40 {T sq : List Int} {j xn : Nat} (hj : j < T.length) (hx : T[j] = (xn : Int)) (hl : sq.length = 40) (hn : xn < 40) (h : ∀ t : Nat, t < 40 → sq[t]?.getD 0 = (List.count (t : Int) (T.take j) : Nat)) :
    ∀ t : Nat, t < 40 → (sq.set xn (sq[xn]?.getD 0 + 1))[t]?.getD 0 = (List.count (t : Int) (T.take (j + 1)) : Nat) := fun t ht => by
  rw [List.take_add_one, List.getElem?_eq_getElem hj, hx]
  simp only [Option.toList_some, List.count_append, List.count_cons, List.count_nil]
  by_cases e : xn = t
  · subst e
    rw [List.getElem?_set_self (by omega), Option.getD_some, h _ ht, if_pos (by simp)]
    omega
  · rw [List.getElem?_set_ne e, h t ht]
    have : ¬ ((((xn : Nat) : Int) == (t : Int)) = true) := by simp; omega
    rw [if_neg this]
    omega

theorem seenLe (T : List Int) (j : Nat) (x : Int) : List.count x (T.take j) ≤ List.count x T := (List.take_sublist j T).count_le x

theorem sumTo2_le {f : Nat → Int} (h : ∀ j, 0 ≤ f j ∧ f j ≤ 1) (n : Nat) : 0 ≤ sumTo2 f n ∧ sumTo2 f n ≤ n := by
  induction n with
  | zero => exact ⟨Int.le_refl _, Int.le_refl _⟩
  | succ n ih =>
    have := h n
    simp only [sumTo2]; omega

end Go.Proofs.Ytfbcadknimfhjaa
