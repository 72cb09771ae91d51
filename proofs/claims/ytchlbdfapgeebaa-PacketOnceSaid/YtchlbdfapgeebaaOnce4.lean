/- Three that put packets, take them and put them back, as plain numbers: a step. No program. -/
import Derived.Test.YtchlbdfapgeebaaOnce3
namespace Go.Proofs.Ytchlbdfapgeebaa
open Go.RowKit

theorem taskO_is {c : Cfg} {mem : List Int} {p : Int} : taskO c mem p = mget mem (pPack c p 2) := by
  unfold taskO
  rw [show pTask c p 0 = pTask c p ((0 : Nat) : Int) from rfl, task_is (by omega)]
  rfl

theorem Act.role_put {a : Act} {pm : PM} {ts : List Int} (h : a.role pm = .put ts) : a.kind = 0 ∧ ts = pm.tasks := by
  unfold Act.role at h
  split at h
  · cases h
  · split at h
    · next e => cases h; exact ⟨e, rfl⟩
    · cases h

theorem Act.role_take {a : Act} {pm : PM} (hk : a.kind = 0 ∨ a.kind = 1 ∨ a.kind = 2) (h : a.role pm = .take) : a.kind = 1 := by
  unfold Act.role at h
  split at h
  · cases h
  · split at h
    · cases h
    · omega

theorem Act.role_back {a : Act} {pm : PM} {q : Int} (h : a.role pm = .back q) : a.kind = 2 ∧ q = a.has := by
  unfold Act.role at h
  split at h
  · next e => cases h; exact ⟨e, rfl⟩
  · split at h <;> cases h

section
variable {c : Cfg} {i : Int} {g : OG} {P S : List Int} {own : Nat → List Int}

/-- There is a spare packet for one who looks for it. -/
theorem OInv.some {pm : PM} (hg : Good c) (h : OInv c i g P S own) {k : Nat} (hk : k < 3) (hj : (g.act k).job = .some pm) (hp : pm.pc = .spare) : S ≠ [] := by
  obtain ⟨ho1, ho2, ho3⟩ := h.own k hk
  rw [hj] at ho3
  simp only at ho3
  obtain ⟨hd, hb, _, htl, _⟩ := ho3
  have hmb := manyI_bound hg
  have h0 : (g.act k).kind = 0 ∧ own k = [] := by
    unfold PB at hb
    split at hb
    · next e =>
      rw [hp] at hb
      exact ⟨(Act.role_put e).1, hb.2.1⟩
    · rw [hp] at hb; exact hb.elim
    · rw [hp] at hb; exact hb.elim
  have h1 : (g.act k).fl.length = 1 := by
    unfold Act.fl; rw [hj]; simp only [h0.1, if_true]; exact htl h0.1
  have h2 := sum3_le (fun a => a.fl.length) g.act hk
  simp only [h1] at h2
  have h3 := sum3_upd List.length own [0] hk
  rw [h0.2] at h3
  simp only [List.length_nil, List.length_cons] at h3
  have h4 := sum3_bound List.length (upd own k [0]) 1 (fun m hm => by
    by_cases e : m = k
    · subst e; rw [upd_same]; simp
    · rw [upd_other e]; exact (h.own m hm).2.1)
  have h5 := h.len
  have h6 := h.num
  have h7 := h.put
  intro e
  rw [e] at h5
  simp only [List.length_nil] at h5
  omega

/-- A step of one of them. -/
theorem OInv.turn {pm : PM} (hg : Good c) (h : OInv c i g P S own) (hi : i < 4294967295) {k : Nat} (hk : k < 3) (hj : (g.act k).job = .some pm) (hU' : ∀ x ∈ (pmStep c g.mem pm).1, U x) :
    ∃ P' S' own', OInv c (i + 1) (oTurn c k g) P' S' own' ∧ ((pmStep c g.mem pm).2.pc.fin = true → (g.act k).kind = 1 → 0 < (pmStep c g.mem pm).2.p →
      1 ≤ taskO c (pmStep c g.mem pm).1 (pmStep c g.mem pm).2.p ∧ taskO c (pmStep c g.mem pm).1 (pmStep c g.mem pm).2.p ≤ g.put ∧ mget (pmStep c g.mem pm).1 (pPack c (pmStep c g.mem pm).2.p 0) = 1) := by
  have hsp := h.some hg hk hj
  obtain ⟨ho1, ho2, ho3⟩ := h.own k hk
  rw [hj] at ho3
  simp only at ho3
  obtain ⟨hd, hb, hhas, htl, htl4⟩ := ho3
  have hrng := h.rng hk
  have hap := h.apart hk
  have hcnt := h.cnt
  have hrole : ∀ ts, (g.act k).role pm = .put ts → 0 < ts.length ∧ ts.length ≤ 4 := fun ts e => by
    obtain ⟨e1, rfl⟩ := Act.role_put e
    exact ⟨by rw [htl e1]; omega, htl4⟩
  obtain ⟨own2, P', S', hi', hb', hf, hperm, htk, hE⟩ := PB.step hg h.inv h.all hb hrole hrng (h.nd hk) (by have := h.h4; omega) (by have := h.h5; omega) hsp hd
  have hT : ∀ p, p ∉ own k → 1 ≤ p ∧ p ≤ manyI c → taskO c (pmStep c g.mem pm).1 p = taskO c g.mem p := fun p hp hr => by
    rw [taskO_is, taskO_is]
    exact hf.pks p 2 hr.1 hr.2 hp (by omega) (by omega)
  have hTP : ∀ p ∈ P, taskO c (pmStep c g.mem pm).1 p = taskO c g.mem p := fun p hp => hT p (hap p (by simp [hp])) (h.inv.rng p (by simp [hp]))
  have hCP : ∀ p ∈ P, Content c (pmStep c g.mem pm).1 p [taskO c (pmStep c g.mem pm).1 p] := fun p hp => by
    rw [hTP p hp]
    have := h.inv.rng p (by simp [hp])
    exact (h.pool p hp).frm (by simp) hf ⟨this.1, this.2, hap p (by simp [hp])⟩
  have hmap : P.map (taskO c (pmStep c g.mem pm).1) = P.map (taskO c g.mem) := List.map_congr_left hTP
  have hoth : ∀ m, m < 3 → m ≠ k → OAct c (pmStep c g.mem pm).1 (g.act m) (own m) := fun m hm hn => by
    obtain ⟨o1, o2, o3⟩ := h.own m hm
    refine ⟨o1, o2, ?_⟩
    cases hjm : (g.act m).job with
    | none => rw [hjm] at o3; exact o3
    | some qm =>
      rw [hjm] at o3
      obtain ⟨q1, q2, q3, q4, q5⟩ := o3
      have hr2 := h.rng hm
      have ha2 := h.apart2 hk hm hn
      exact ⟨q1, q2.frm q5 hf h.inv hap (fun q hq => ⟨(hr2 q hq).1, (hr2 q hq).2, ha2 q hq⟩), q3, q4, q5⟩
  have hfl : (g.act k).fl = if (g.act k).kind = 0 then pm.tasks else [] := by unfold Act.fl; rw [hj]
  have htw : (g.act k).tw = if (g.act k).kind = 0 then pm.turns else 0 := by unfold Act.tw; rw [hj]
  -- what is to be shown in each case
  have fin : ∀ (a : Act) (seen' : List Int), OAct c (pmStep c g.mem pm).1 a own2 → (∀ p ∈ P', Content c (pmStep c g.mem pm).1 p [taskO c (pmStep c g.mem pm).1 p]) → seen'.length = 400 →
      (∀ t : Nat, 1 ≤ t → t < 400 → (seen'[t]?.getD 0) + ((List.count (t : Int) (P'.map (taskO c (pmStep c g.mem pm).1)) + List.count (t : Int) a.fl : Nat) : Int) = (g.seen[t]?.getD 0) + ((List.count (t : Int) (P.map (taskO c g.mem)) + List.count (t : Int) (g.act k).fl : Nat) : Int)) →
      (∀ p ∈ P', 1 ≤ taskO c (pmStep c g.mem pm).1 p ∧ taskO c (pmStep c g.mem pm).1 p ≤ g.put) → (∀ t ∈ a.fl, t ∈ (g.act k).fl) → P'.length + a.fl.length ≤ P.length + (g.act k).fl.length → (g.act k).tw ≤ a.tw + 1 →
      OInv c (i + 1) { g with mem := (pmStep c g.mem pm).1, seen := seen', act := upd g.act k a } P' S' (upd own k own2) := fun a seen' ha hp hs ho hr hF hn hw => by
    refine ⟨hi', hU', ?_, ?_, fun q => ?_, ?_, fun m hm => ?_, hp, hs, fun t t0 t1 => ?_, hr, fun m hm t ht => ?_, ?_, h.put, ?_, h.n0⟩
    · have := h.h4
      rcases hf.hd4 with e | e <;> (show hiI (mget (pmStep c g.mem pm).1 4) ≤ i + 1) <;> rw [e] <;> omega
    · have := h.h5
      rcases hf.hd5 with e | e <;> (show hiI (mget (pmStep c g.mem pm).1 5) ≤ i + 1) <;> rw [e] <;> omega
    · have e1 := sum3_upd (List.count q) own own2 hk
      have e2 := hperm.count_eq q
      rw [List.count_append, List.count_append, List.count_append, List.count_append] at e2
      have e3 := hcnt q
      rw [← e3]
      omega
    · have e1 := sum3_upd List.length own own2 hk
      have e2 := hperm.length_eq
      rw [List.length_append, List.length_append, List.length_append, List.length_append] at e2
      have e3 := h.len
      omega
    · by_cases e : m = k
      · subst e; simp only [upd_same]; exact ha
      · simp only [upd_other e]; exact hoth m hm e
    · show (seen'[t]?.getD 0) + ((List.count (t : Int) (P'.map (taskO c (pmStep c g.mem pm).1)) + sum3 (fun a => List.count (t : Int) a.fl) (upd g.act k a) : Nat) : Int) = if (t : Int) ≤ g.put then 1 else 0
      have e1 := sum3_upd (fun a => List.count (t : Int) a.fl) g.act a hk
      have e2 := h.once t t0 t1
      have e3 := ho t t0 t1
      rw [← e2]
      omega
    · by_cases e : m = k
      · subst e
        simp only [upd_same] at ht
        exact h.rngF m hm t (hF t ht)
      · simp only [upd_other e] at ht
        exact h.rngF m hm t ht
    · show (P'.length : Int) + (sum3 (fun a => a.fl.length) (upd g.act k a) : Nat) ≤ g.put
      have e1 := sum3_upd (fun a => a.fl.length) g.act a hk
      have e2 := h.num
      omega
    · show 2 * g.put ≤ i + 1 + (sum3 Act.tw (upd g.act k a) : Nat)
      have e1 := sum3_upd Act.tw g.act a hk
      have e2 := h.rate
      omega
  unfold oTurn
  rw [hj]
  simp only
  have more : (pmStep c g.mem pm).2.pc ≠ .done → P' = P → own2.length ≤ 1 → pm.turns ≤ (pmStep c g.mem pm).2.turns + 1 →
      ∃ P' S' own', OInv c (i + 1) (if (pmStep c g.mem pm).2.pc.fin = true then oEnd c k { g with mem := (pmStep c g.mem pm).1 } (pmStep c g.mem pm).2.p else { g with mem := (pmStep c g.mem pm).1, act := upd g.act k { g.act k with job := .some (pmStep c g.mem pm).2 } }) P' S' own' ∧ ((pmStep c g.mem pm).2.pc.fin = true → (g.act k).kind = 1 → 0 < (pmStep c g.mem pm).2.p →
      1 ≤ taskO c (pmStep c g.mem pm).1 (pmStep c g.mem pm).2.p ∧ taskO c (pmStep c g.mem pm).1 (pmStep c g.mem pm).2.p ≤ g.put ∧ mget (pmStep c g.mem pm).1 (pPack c (pmStep c g.mem pm).2.p 0) = 1) := fun hn hP hl hw => by
    have hfin : (pmStep c g.mem pm).2.pc.fin = false := by
      cases e : (pmStep c g.mem pm).2.pc.fin
      · rfl
      · exact absurd (fin_iff.1 e) hn
    rw [hfin]
    simp only [Bool.false_eq_true, if_false]
    subst hP
    refine ⟨_, _, _, fin { g.act k with job := .some (pmStep c g.mem pm).2 } g.seen ⟨ho1, hl, ?_⟩ hCP h.seenl (fun t _ _ => ?_) (fun p hp => by rw [hTP p hp]; exact h.rngP p hp) (fun t ht => ?_) ?_ ?_, fun e => by cases e⟩
    · simp only
      have : Act.role { g.act k with job := .some (pmStep c g.mem pm).2 } (pmStep c g.mem pm).2 = (g.act k).role pm := by
        unfold Act.role; simp only [htk]
      exact ⟨hn, by rw [this]; exact hb', hhas, fun e => by rw [htk]; exact htl e, by rw [htk]; exact htl4⟩
    · rw [hmap, hfl]; simp only [Act.fl, htk]
    · rw [hfl]; simp only [Act.fl, htk] at ht; exact ht
    · rw [hfl]; simp only [Act.fl, htk]; exact Nat.le_refl _
    · rw [htw]; simp only [Act.tw]
      split <;> omega
  -- an end that changes no packet of the pool, or takes one
  cases hE with
  | quiet h1 h2 h3 h4 h5 =>
    refine more h4 h2 (by rw [h1]; exact ho2) ?_
    rcases h5 with e | e | e
    · unfold PM.turns; rw [e]; omega
    · have : pm.turns = 1 := by unfold PM.turns; rw [e]
      omega
    · have : pm.turns = 1 := by unfold PM.turns; rw [e]
      omega
  | spare p h0 h1 h2 h3 h4 =>
    refine more (by rw [h4]; simp) h2 (by rw [h1.2]; simp) ?_
    unfold PM.turns; rw [h0, h4]; simp
  | pushed p ts h0 h1 h2 h3 h4 h5 =>
    obtain ⟨hk0, rfl⟩ := Act.role_put h0
    have hfin : (pmStep c g.mem pm).2.pc.fin = true := fin_iff.2 h4
    have hts := htl hk0
    obtain ⟨t0, ht0⟩ : ∃ t0, pm.tasks = [t0] := List.length_eq_one_iff.1 hts
    rw [ht0] at h5
    have htp : taskO c (pmStep c g.mem pm).1 p = t0 := by
      have := h5.2 0 (by simp)
      exact this
    have hfk : (g.act k).fl = [t0] := by rw [hfl, if_pos hk0, ht0]
    have hin := h.rngF k hk t0 (by rw [hfk]; simp)
    subst h2
    rw [hfin]
    simp only [if_true]
    have he : oEnd c k { g with mem := (pmStep c g.mem pm).1 } (pmStep c g.mem pm).2.p = { g with mem := (pmStep c g.mem pm).1, act := upd g.act k ⟨none, (g.act k).kind, (g.act k).has⟩ } := by
      unfold oEnd
      simp [hk0]
    rw [he]
    have hh0 := hhas (by omega)
    refine ⟨_, _, _, fin ⟨none, (g.act k).kind, (g.act k).has⟩ g.seen ⟨ho1, by rw [h1.2]; simp, ?_⟩ ?_ h.seenl (fun t _ _ => ?_) ?_ (fun t ht => by cases ht) ?_ ?_, fun _ e => by omega⟩
    · simp only [hh0, h1.2]; simp
    · intro q hq
      rcases List.mem_cons.1 hq with rfl | hq
      · rw [htp]; exact h5
      · exact hCP q hq
    · rw [List.map_cons, htp, hmap, hfk]
      simp only [Act.fl, List.count_cons, List.count_nil]
      omega
    · intro q hq
      rcases List.mem_cons.1 hq with rfl | hq
      · rw [htp]; exact hin
      · rw [hTP q hq]; exact h.rngP q hq
    · rw [hfk]; simp [Act.fl]
    · rw [htw, if_pos hk0]
      simp only [Act.tw]
      have hb2 := hb
      rw [h0] at hb2
      obtain ⟨_, hb2⟩ := hb2
      have : pm.turns ≤ 1 := by
        cases hpc : pm.pc with
        | spare =>
          rw [hpc] at hb2
          have := hb2.1
          rw [h1.1] at this
          cases this
        | _ => unfold PM.turns; rw [hpc]; simp
      omega
  | taken p h0 h1 h2 h3 h4 h5 h6 =>
    have hk1 := Act.role_take ho1 h0
    have hfin : (pmStep c g.mem pm).2.pc.fin = true := fin_iff.2 h4
    have hpP : p ∈ P := by rw [h2]; simp
    have hpr := h.inv.rng p (by simp [hpP])
    have hfk : (g.act k).fl = [] := by rw [hfl, if_neg (by omega)]
    have htp := hTP p hpP
    have hin := h.rngP p hpP
    have hC := hCP p hpP
    rw [hfin]
    simp only [if_true, h5]
    have he : oEnd c k { g with mem := (pmStep c g.mem pm).1 } p = { g with mem := (pmStep c g.mem pm).1, seen := g.seen.set (taskO c (pmStep c g.mem pm).1 p).toNat ((g.seen[(taskO c (pmStep c g.mem pm).1 p).toNat]?.getD 0) + 1), act := upd g.act k ⟨none, 1, p⟩ } := by
      unfold oEnd
      simp only [hk1]
      rw [if_neg (by omega), if_pos ⟨trivial, by omega⟩]
    rw [he]
    have hPP : ∀ q ∈ P', q ∈ P := fun q hq => by rw [h2]; simp [hq]
    refine ⟨_, _, _, fin ⟨none, 1, p⟩ _ ⟨.inr (.inl rfl), by rw [h1.2]; simp, ?_⟩ (fun q hq => hCP q (hPP q hq)) ?_ (fun t t0 t1 => ?_) (fun q hq => by rw [hTP q (hPP q hq)]; exact h.rngP q (hPP q hq)) (fun t ht => by cases ht) ?_ ?_, fun _ _ _ => ⟨by rw [htp]; exact hin.1, by rw [htp]; exact hin.2, ?_⟩⟩
    · simp only [h1.2]
      exact ⟨by omega, by rw [if_pos (by omega)]⟩
    · rw [List.length_set]; exact h.seenl
    · have e1 : P.map (taskO c g.mem) = taskO c g.mem p :: P'.map (taskO c (pmStep c g.mem pm).1) := by
        rw [← hmap, h2, List.map_cons, hTP p hpP]
      rw [e1, hfk, htp]
      simp only [Act.fl, List.count_cons, List.count_nil]
      by_cases e : taskO c g.mem p = t
      · rw [e]
        simp only [Int.toNat_natCast, beq_self_eq_true, if_true]
        rw [List.getElem?_set_self (by have := h.seenl; omega)]
        simp only [Option.getD_some]
        omega
      · rw [List.getElem?_set_ne (by omega)]
        have : ¬ ((taskO c g.mem p == (t : Int)) = true) := by simpa using e
        rw [if_neg this]
    · rw [hfk, h2]; simp [Act.fl]
    · rw [htw, if_neg (by omega)]; omega
    · have := hC.1
      simpa using this
  | nothing h0 h1 h2 h3 h4 h5 =>
    have hk1 := Act.role_take ho1 h0
    have hfin : (pmStep c g.mem pm).2.pc.fin = true := fin_iff.2 h4
    have hfk : (g.act k).fl = [] := by rw [hfl, if_neg (by omega)]
    rw [hfin]
    simp only [if_true, h5]
    have he : oEnd c k { g with mem := (pmStep c g.mem pm).1 } 0 = { g with mem := (pmStep c g.mem pm).1, act := upd g.act k ⟨none, (g.act k).kind, (g.act k).has⟩ } := by
      unfold oEnd
      simp [hk1]
    rw [he]
    have hh0 := hhas (by omega)
    have hPP : ∀ q ∈ P', q ∈ P := fun q hq => by rw [h2.2] at hq; cases hq
    refine ⟨_, _, _, fin ⟨none, (g.act k).kind, (g.act k).has⟩ g.seen ⟨ho1, by rw [h1.2]; simp, ?_⟩ (fun q hq => hCP q (hPP q hq)) h.seenl (fun t _ _ => ?_) (fun q hq => by rw [hTP q (hPP q hq)]; exact h.rngP q (hPP q hq)) (fun t ht => by cases ht) ?_ ?_, fun _ _ e => by omega⟩
    · simp only [hh0, h1.2]; simp
    · rw [h2.1, h2.2, hfk]; rfl
    · rw [h2.1, h2.2]; simp [Act.fl]
    · rw [htw, if_neg (by omega)]; omega
  | backed q h0 h1 h2 h3 h4 h5 =>
    obtain ⟨hk2, rfl⟩ := Act.role_back h0
    have hfin : (pmStep c g.mem pm).2.pc.fin = true := fin_iff.2 h4
    have hfk : (g.act k).fl = [] := by rw [hfl, if_neg (by omega)]
    subst h2
    rw [hfin]
    simp only [if_true]
    have he : oEnd c k { g with mem := (pmStep c g.mem pm).1 } (pmStep c g.mem pm).2.p = { g with mem := (pmStep c g.mem pm).1, act := upd g.act k ⟨none, 2, 0⟩ } := by
      unfold oEnd
      simp [hk2]
    rw [he]
    refine ⟨_, _, _, fin ⟨none, 2, 0⟩ g.seen ⟨.inr (.inr rfl), by rw [h1.2]; simp, ?_⟩ hCP h.seenl (fun t _ _ => ?_) (fun q hq => by rw [hTP q hq]; exact h.rngP q hq) (fun t ht => by cases ht) ?_ ?_, fun _ e => by omega⟩
    · simp only [h1.2]; simp
    · rw [hmap, hfk]; rfl
    · rw [hfk]; simp [Act.fl]
    · rw [htw, if_neg (by omega)]; omega

end

end Go.Proofs.Ytchlbdfapgeebaa
