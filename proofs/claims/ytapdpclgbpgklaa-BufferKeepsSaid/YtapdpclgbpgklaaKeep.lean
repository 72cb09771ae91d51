/- Nodes that are logged one at a time: plain numbers. No program. -/
import Derived.Test.YtapdpclgbpgklaaSeqW
import Derived.Test.YtapdpclgbpgklaaSeq3
import Derived.Test.YtapdpclgbpgklaaAwake18
namespace Go.Proofs.Ytapdpclgbpgklaa
open Go.RowKit

/-- Nodes that were logged, and weren't marked: L; their tasks are in the buffer, or in the pool. -/
structure KInv (c : Cfg) (mem ts P S L : List Int) : Prop where
  inv : Inv c mem P S
  cont : ∃ f : Int → List Int, (∀ p ∈ P, Content c mem p (f p) ∧ 1 ≤ (f p).length ∧ (f p).length ≤ 4) ∧ (P.flatMap f ++ ts).Perm (L.map fun v => pairI v 0)
  nd : L.Nodup
  rng : ∀ v ∈ L, 1 ≤ v ∧ v ≤ nN c
  mrk : ∀ v : Int, 1 ≤ v → v ≤ nN c → mget mem (pNode c v 2) = 4 ∨ (mget mem (pNode c v 2) = 0 ∧ v ∉ L)
  work : mget mem 1 = L.length
  all : (P.length : Int) + S.length = manyI c

theorem mark_place {c : Cfg} (hg : Good c) {v : Int} (hv : 1 ≤ v ∧ v ≤ nN c) : node0I c ≤ pNode c v 2 ∧ pNode c v 2 < allI c :=
  node_place hv.1 hv.2 (by omega) (by have := room_bound c v; omega)

theorem mark_ne {c : Cfg} {v u : Int} (hv : 1 ≤ v ∧ v ≤ nN c) (hu : 1 ≤ u ∧ u ≤ nN c) (h : v ≠ u) : pNode c v 2 ≠ pNode c u 2 := by
  unfold pNode
  rw [if_pos hv, if_pos hu]
  have key : ∀ a b : Nat, a < b → b < nN c → atI c a + 4 < atI c b + 0 + 1 ∨ atI c a + 4 ≤ atI c b := fun a b hab hb => by
    have h1 := atI_succ (c := c) (k := a) (by omega)
    have h2 := rooms_get (c := c) (k := a) (by omega)
    have h3 := atI_mono (c := c) (a + 1) b (by omega) (by omega)
    omega
  rcases Nat.lt_or_gt_of_ne (show (v - 1).toNat ≠ (u - 1).toNat by omega) with h' | h'
  · have := key _ _ h' (by omega); omega
  · have := key _ _ h' (by omega); omega

theorem flat_ge {f : Int → List Int} {P : List Int} (h : ∀ p ∈ P, 1 ≤ (f p).length) : P.length ≤ (P.flatMap f).length := by
  induction P with
  | nil => simp
  | cons p P ih =>
    have h1 := h p (by simp)
    have h2 := ih (fun q hq => h q (by simp [hq]))
    simp only [List.flatMap_cons, List.length_append, List.length_cons]
    omega

theorem KInv.few {c : Cfg} {mem ts P S L : List Int} (h : KInv c mem ts P S L) : P.length + ts.length ≤ L.length ∧ L.length ≤ nN c := by
  obtain ⟨f, hf, hp⟩ := h.cont
  have h1 := hp.length_eq
  rw [List.length_append, List.length_map] at h1
  have h2 := flat_ge (fun p hp => (hf p hp).2.1)
  exact ⟨by omega, nodup_len h.nd h.rng⟩

theorem many_more {c : Cfg} (hg : Good c) : (nN c : Int) + 3 ≤ manyI c := by
  have h := piece_bound hg (nN c)
  have h1 : 1 ≤ c.mks ∧ 1 ≤ c.mus := by unfold Good at hg; omega
  unfold manyI
  have h2 : ((rooms c).map fun r => (r + c.ch - 1) / c.ch).take (nN c) = (rooms c).map fun r => (r + c.ch - 1) / c.ch := List.take_of_length_le (by simp [nN])
  rw [h2] at h
  omega

/-- A change of memory that no packet, and no mark, sees. -/
theorem KInv.frame {c : Cfg} {mem mem' ts P S L : List Int} (hg : Good c) (h : KInv c mem ts P S L) (hl : mem'.length = mem.length) (hf : ∀ a, a < node0I c → a ≠ 1 → mget mem' a = mget mem a) : Inv c mem' P S ∧ ∃ f : Int → List Int, (∀ p ∈ P, Content c mem' p (f p) ∧ 1 ≤ (f p).length ∧ (f p).length ≤ 4) ∧ (P.flatMap f ++ ts).Perm (L.map fun v => pairI v 0) := by
  obtain ⟨f, hc, hp⟩ := h.cont
  have hn := node0_bound hg
  have pk : ∀ p j, 1 ≤ p → p ≤ manyI c → 0 ≤ j → j ≤ 5 → mget mem' (pPack c p j) = mget mem (pPack c p j) := fun p j p1 p2 j0 j1 => by
    have h1 := pack_place hg p1 p2 j0 j1
    exact hf _ h1.2.1 (by omega)
  refine ⟨h.inv.mono _ hl ?_ ?_ (List.Sublist.refl _), f, fun p hp => ⟨?_, (hc p hp).2⟩, hp⟩
  · exact Linked.head h.inv.pool (by rw [hf 4 (by omega) (by omega)]) (fun p hp => by
      have := h.inv.rng p (by simp [hp])
      rw [show lnk c p = pPack c p 1 from rfl, pk p 1 this.1 this.2 (by omega) (by omega)])
  · exact Linked.head h.inv.spare (by rw [hf 5 (by omega) (by omega)]) (fun p hp => by
      have := h.inv.rng p (by simp [hp])
      rw [show lnk c p = pPack c p 1 from rfl, pk p 1 this.1 this.2 (by omega) (by omega)])
  · have hr := h.inv.rng p (by simp [hp])
    exact (hc p hp).1.frame (hc p hp).2.2 (fun j j0 j1 _ => pk p j hr.1 hr.2 j0 j1)

/-- A node that wasn't marked is. -/
theorem KInv.claim {c : Cfg} {mem ts P S L : List Int} {v : Int} (hg : Good c) (h : KInv c mem ts P S L) (hv : 1 ≤ v ∧ v ≤ nN c) (hm : mget mem (pNode c v 2) ≠ 4) :
    KInv c (mput (mput mem 1 (addI (mget mem 1) 1)) (pNode c v 2) 4) (ts ++ [pairI v 0]) P S (L ++ [v]) := by
  have hn := node0_bound hg
  have hA := allI_bound hg
  have hlen := h.inv.len
  have hp := mark_place hg hv
  have hfew := h.few
  have hnn := nN_bound hg
  have hnl : v ∉ L := by
    rcases h.mrk v hv.1 hv.2 with e | e
    · exact absurd e hm
    · exact e.2
  obtain ⟨hI, f, hc, hperm⟩ := h.frame hg (mem' := mput (mput mem 1 (addI (mget mem 1) 1)) (pNode c v 2) 4) (by rw [mput_len, mput_len]) (fun a a1 a2 => by rw [mget_other (by omega), mget_other a2])
  refine ⟨hI, ⟨f, hc, ?_⟩, ?_, ?_, ?_, ?_, h.all⟩
  · rw [← List.append_assoc, List.map_append]
    exact hperm.append_right _
  · rw [List.nodup_append]
    exact ⟨h.nd, by simp, fun a ha b hb e => by simp at hb; subst hb; subst e; exact hnl ha⟩
  · intro u hu
    rcases List.mem_append.1 hu with h1 | h1
    · exact h.rng u h1
    · simp at h1; subst h1; exact hv
  · intro u u1 u2
    by_cases e : u = v
    · subst e; left; rw [mget_put (by rw [mput_len]; omega)]
    · have hpu := mark_place hg ⟨u1, u2⟩
      rw [mget_other (mark_ne ⟨u1, u2⟩ hv e), mget_other (by omega)]
      rcases h.mrk u u1 u2 with h1 | h1
      · exact .inl h1
      · exact .inr ⟨h1.1, by simp [h1.2, e]⟩
  · rw [mget_other (by omega), mget_put (by omega), h.work]
    unfold addI
    simp
    omega

/-- All tasks are put. -/
theorem KInv.flush {c : Cfg} {mem ts P S L : List Int} (hg : Good c) (h : KInv c mem ts P S L) (h0 : 0 < ts.length) (h4 : ts.length ≤ 4) :
    ∃ mem' j p x P' S', pmRun c (7 + ts.length) (mem, putM ts) = (mem', ⟨.done, ts, j, p, x⟩) ∧ (∀ k, k < 7 + ts.length → (pmRun c k (mem, putM ts)).2.pc ≠ .done) ∧ KInv c mem' [] P' S' L ∧ ∀ v : Int, 1 ≤ v → v ≤ nN c → mget mem' (pNode c v 2) = mget mem (pNode c v 2) := by
  have hfew := h.few
  have hmm := many_more hg
  have hall := h.all
  obtain ⟨p, S', rfl⟩ : ∃ p S', S = p :: S' := by
    cases S with
    | nil => simp at hall; omega
    | cons p S' => exact ⟨p, S', rfl⟩
  have hbusy := seqPut_steps hg h.inv h0
  obtain ⟨mem', j, x, e, hi', hc', hf'⟩ := seqPutF hg h.inv h0 h4
  have hp := h.inv.rng p (by simp)
  have hnd := hi'.nd
  have hpn : p ∉ P := fun hp' => by
    rw [List.cons_append, List.nodup_cons] at hnd
    exact hnd.1 (by simp [hp'])
  obtain ⟨f, hc, hperm⟩ := h.cont
  have hn := node0_bound hg
  have far : ∀ a, node0I c ≤ a → mget mem' a = mget mem a := fun a ha => hf' a (by omega) (by omega) (fun i i0 i1 => by
    have := (pack_place hg hp.1 hp.2 i0 i1).2.1; omega)
  refine ⟨mem', j, p, x, p :: P, S', e, hbusy, ⟨hi', ⟨fun q => if q = p then ts else f q, ?_, ?_⟩, h.nd, h.rng, ?_, ?_, ?_⟩, fun v v1 v2 => far _ (mark_place hg ⟨v1, v2⟩).1⟩
  · intro q hq
    rcases List.mem_cons.1 hq with rfl | hq
    · simp only [if_pos]
      exact ⟨hc', by omega, h4⟩
    · have hne : q ≠ p := fun e => hpn (e ▸ hq)
      simp only [if_neg hne]
      have hr := h.inv.rng q (by simp [hq])
      refine ⟨(hc q hq).1.frame (hc q hq).2.2 (fun i i0 i1 _ => hf' _ ?_ ?_ (fun k k0 k1 => pack_ne hg hr.1 hr.2 i0 i1 hp.1 hp.2 k0 k1 (.inl hne))), (hc q hq).2⟩
      · have := (pack_is hg hr.1 hr.2 i0 i1).2; omega
      · have := (pack_is hg hr.1 hr.2 i0 i1).2; omega
  · rw [List.flatMap_cons, List.append_nil]
    simp only [if_pos]
    have hfl : P.flatMap (fun q => if q = p then ts else f q) = P.flatMap f := flatMap_congr' (fun q hq => if_neg (fun e : q = p => hpn (e ▸ hq)))
    rw [hfl]
    exact (List.perm_append_comm).trans hperm
  · intro v v1 v2
    rw [far _ (mark_place hg ⟨v1, v2⟩).1]
    exact h.mrk v v1 v2
  · rw [hf' 1 (by omega) (by omega) (fun i i0 i1 => by have := (pack_is hg hp.1 hp.2 i0 i1).2; omega)]
    exact h.work
  · simp at hall ⊢; omega

theorem bsRun_add (c : Cfg) (a b : Nat) (x : List Int × List Int × BS) : bsRun c (a + b) x = bsRun c b (bsRun c a x) := by
  induction b with
  | zero => rfl
  | succ b ih => rw [← Nat.add_assoc, bsRun, bsRun, ih]

theorem bsRun_done {c : Cfg} {mem ts : List Int} {s : BS} (h : s.pc = .done) (b : Nat) : (bsRun c b (mem, ts, s)).1 = mem ∧ (bsRun c b (mem, ts, s)).2.1 = ts ∧ (bsRun c b (mem, ts, s)).2.2.pc = .done := by
  induction b with
  | zero => exact ⟨rfl, rfl, h⟩
  | succ b ih =>
    obtain ⟨h1, h2, h3⟩ := ih
    rw [bsRun]
    unfold bsStep
    rw [h3]
    exact ⟨h1, h2, rfl⟩

theorem bsStep_len (c : Cfg) (mem ts : List Int) (s : BS) : (bsStep c mem ts s).2.1.length ≤ ts.length + 1 := by
  unfold bsStep
  split
  · simp
  · split
    · split
      · split <;> simp
      · simp
    · simp
  · split <;> simp

theorem bsRun_len (c : Cfg) (k : Nat) (x : List Int × List Int × BS) : (bsRun c k x).2.1.length ≤ x.2.1.length + k := by
  induction k with
  | zero => simp [bsRun]
  | succ k ih =>
    have := bsStep_len c (bsRun c k x).1 (bsRun c k x).2.1 (bsRun c k x).2.2
    rw [bsRun]; omega

/-- The puts' steps are the packet's. -/
theorem puts_run {c : Cfg} {mem ts : List Int} {v : Int} {cm : CM} {ev : Ev} {pm : PM} (n : Nat) (h : ∀ j, j < n → (pmRun c j (mem, pm)).2.pc ≠ .done) :
    ∀ j, j < n → ∃ ev', bsRun c j (mem, ts, ⟨.puts, v, cm, pm, ev⟩) = ((pmRun c j (mem, pm)).1, ts, ⟨.puts, v, cm, (pmRun c j (mem, pm)).2, ev'⟩) := by
  intro j
  induction j with
  | zero => intro _; exact ⟨ev, rfl⟩
  | succ j ih =>
    intro hj
    obtain ⟨ev', e⟩ := ih (by omega)
    have hb := h (j + 1) hj
    have hf : (pmStep c (pmRun c j (mem, pm)).1 (pmRun c j (mem, pm)).2).2.pc.fin = false := by
      cases e : (pmStep c (pmRun c j (mem, pm)).1 (pmRun c j (mem, pm)).2).2.pc.fin
      · rfl
      · exact absurd (fin_iff.1 e) hb
    refine ⟨Ev.zero, ?_⟩
    rw [bsRun, e]
    simp only [bsStep, hf, Bool.false_eq_true, ↓reduceIte]
    rfl

theorem puts_end {c : Cfg} {mem ts : List Int} {v : Int} {cm : CM} {ev : Ev} {pm : PM} (n : Nat) (h : ∀ j, j < n + 1 → (pmRun c j (mem, pm)).2.pc ≠ .done) {mem' : List Int} {pm' : PM} (e : pmRun c (n + 1) (mem, pm) = (mem', pm')) (hd : pm'.pc = .done) :
    bsRun c (n + 1) (mem, ts, ⟨.puts, v, cm, pm, ev⟩) = (mem', [], ⟨.done, v, cm, pm', Ev.zero⟩) := by
  obtain ⟨ev', e1⟩ := puts_run (ts := ts) (v := v) (cm := cm) (ev := ev) (n + 1) h n (by omega)
  have e2 : pmStep c (pmRun c n (mem, pm)).1 (pmRun c n (mem, pm)).2 = (mem', pm') := e
  have hf : pm'.pc.fin = true := fin_iff.2 hd
  rw [bsRun, e1]
  simp only [bsStep, e2, hf, ↓reduceIte]

/-- A node is logged, alone: 24 steps are enough. -/
theorem keep_log {c : Cfg} {mem ts P S L : List Int} {v : Int} (hg : Good c) (h : KInv c mem ts P S L) (hts : (ts.length : Int) < c.bu) (hv : 1 ≤ v ∧ v ≤ nN c) :
    ∃ P' S', (bsRun c 24 (mem, ts, logBS c v 4)).2.2.pc = .done ∧ KInv c (bsRun c 24 (mem, ts, logBS c v 4)).1 (bsRun c 24 (mem, ts, logBS c v 4)).2.1 P' S' (if mget mem (pNode c v 2) = 4 then L else L ++ [v]) ∧ ((bsRun c 24 (mem, ts, logBS c v 4)).2.1.length : Int) < c.bu ∧ mget (bsRun c 24 (mem, ts, logBS c v 4)).1 (pNode c v 2) = 4 := by
  have hbu : 1 ≤ c.bu ∧ c.bu ≤ 4 := by unfold Good at hg; omega
  have hlog : logBS c v 4 = ⟨.claims, v, newCM v 4, putAll [], Ev.zero⟩ := by unfold logBS; rw [if_pos hv]
  have hn := node0_bound hg
  have hA := allI_bound hg
  have hlen := h.inv.len
  have hp := mark_place hg hv
  by_cases hm : mget mem (pNode c v 2) = 4
  · rw [if_pos hm]
    have e1 : bsRun c 1 (mem, ts, logBS c v 4) = (mem, ts, ⟨.done, v, ⟨.done, v, 4, 4, false⟩, putAll [], Ev.zero⟩) := by
      rw [hlog]
      simp [bsRun, bsStep, cmStep, hm, CPc.fin]
    have e24 : bsRun c 24 (mem, ts, logBS c v 4) = bsRun c 23 (mem, ts, ⟨.done, v, ⟨.done, v, 4, 4, false⟩, putAll [], Ev.zero⟩) := by rw [show 24 = 1 + 23 from rfl, bsRun_add, e1]
    obtain ⟨d1, d2, d3⟩ := bsRun_done (c := c) (mem := mem) (ts := ts) (s := ⟨.done, v, ⟨.done, v, 4, 4, false⟩, putAll [], Ev.zero⟩) rfl 23
    rw [e24, d1, d2, d3]
    exact ⟨P, S, rfl, h, hts, hm⟩
  · rw [if_neg hm]
    have h0 : mget mem (pNode c v 2) = 0 := by
      rcases h.mrk v hv.1 hv.2 with e | e
      · exact absurd e hm
      · exact e.1
    have hK := h.claim hg hv hm
    have e2 : bsRun c 2 (mem, ts, logBS c v 4) = (mput mem 1 (addI (mget mem 1) 1), ts, ⟨.claims, v, ⟨.swap, v, 4, 0, false⟩, putAll [], Ev.zero⟩) := by
      rw [hlog]
      simp [bsRun, bsStep, cmStep, h0, CPc.fin]
    have hhit : mhit (mput mem 1 (addI (mget mem 1) 1)) (pNode c v 2) 0 = true := by
      have := mhit_self (mem := mput mem 1 (addI (mget mem 1) 1)) (a := pNode c v 2) (by rw [mput_len]; omega)
      rwa [mget_other (by omega), h0] at this
    have hmk' : mget (mput (mput mem 1 (addI (mget mem 1) 1)) (pNode c v 2) 4) (pNode c v 2) = 4 := mget_put (by rw [mput_len]; omega)
    have htl : (ts ++ [pairI v 0]).length = ts.length + 1 := by simp
    by_cases hbig : (ts.length : Int) + 1 ≥ c.bu
    · have e3 : bsRun c 3 (mem, ts, logBS c v 4) = (mput (mput mem 1 (addI (mget mem 1) 1)) (pNode c v 2) 4, ts ++ [pairI v 0], ⟨.puts, v, ⟨.done, v, 4, 0, true⟩, putAll (ts ++ [pairI v 0]), ⟨1, 0, v, 0, 0⟩⟩) := by
        rw [bsRun, e2]
        simp [bsStep, cmStep, hhit, CPc.fin, if_pos hbig]
      have htk : (ts ++ [pairI v 0]).take 4 = ts ++ [pairI v 0] := List.take_of_length_le (by omega)
      obtain ⟨mem', j, p, x, P', S', er, hbz, hK', hmark⟩ := hK.flush hg (by omega) (by omega)
      have e4 := puts_end (c := c) (ts := ts ++ [pairI v 0]) (v := v) (cm := ⟨.done, v, 4, 0, true⟩) (ev := ⟨1, 0, v, 0, 0⟩) (6 + (ts ++ [pairI v 0]).length) (fun j hj => hbz j (by omega)) (mem' := mem') (pm' := ⟨.done, ts ++ [pairI v 0], j, p, x⟩) (by rw [show 6 + (ts ++ [pairI v 0]).length + 1 = 7 + (ts ++ [pairI v 0]).length from by omega]; exact er) rfl
      have e24 : bsRun c 24 (mem, ts, logBS c v 4) = bsRun c (14 - (ts ++ [pairI v 0]).length) (mem', [], ⟨.done, v, ⟨.done, v, 4, 0, true⟩, ⟨.done, ts ++ [pairI v 0], j, p, x⟩, Ev.zero⟩) := by
        rw [show 24 = 3 + ((6 + (ts ++ [pairI v 0]).length + 1) + (14 - (ts ++ [pairI v 0]).length)) from by omega, bsRun_add, e3, bsRun_add]
        show bsRun c _ (bsRun c _ (_, _, ⟨BPc.puts, v, _, ⟨.spare, (ts ++ [pairI v 0]).take 4, 0, 0, _⟩, _⟩)) = _
        rw [htk, e4]
      obtain ⟨d1, d2, d3⟩ := bsRun_done (c := c) (mem := mem') (ts := []) (s := ⟨.done, v, ⟨.done, v, 4, 0, true⟩, ⟨.done, ts ++ [pairI v 0], j, p, x⟩, Ev.zero⟩) rfl (14 - (ts ++ [pairI v 0]).length)
      rw [e24, d1, d2, d3]
      exact ⟨P', S', rfl, hK', by simp; omega, by rw [hmark v hv.1 hv.2, hmk']⟩
    · have e3 : bsRun c 3 (mem, ts, logBS c v 4) = (mput (mput mem 1 (addI (mget mem 1) 1)) (pNode c v 2) 4, ts ++ [pairI v 0], ⟨.done, v, ⟨.done, v, 4, 0, true⟩, putAll [], ⟨1, 0, v, 0, 0⟩⟩) := by
        rw [bsRun, e2]
        simp [bsStep, cmStep, hhit, CPc.fin, if_neg hbig]
      have e24 : bsRun c 24 (mem, ts, logBS c v 4) = bsRun c 21 (mput (mput mem 1 (addI (mget mem 1) 1)) (pNode c v 2) 4, ts ++ [pairI v 0], ⟨.done, v, ⟨.done, v, 4, 0, true⟩, putAll [], ⟨1, 0, v, 0, 0⟩⟩) := by
        rw [show 24 = 3 + 21 from rfl, bsRun_add, e3]
      obtain ⟨d1, d2, d3⟩ := bsRun_done (c := c) (mem := mput (mput mem 1 (addI (mget mem 1) 1)) (pNode c v 2) 4) (ts := ts ++ [pairI v 0]) (s := ⟨.done, v, ⟨.done, v, 4, 0, true⟩, putAll [], ⟨1, 0, v, 0, 0⟩⟩) rfl 21
      rw [e24, d1, d2, d3]
      exact ⟨P, S, rfl, hK, by rw [htl]; omega, hmk'⟩

/-- What is left is put. -/
theorem keep_flush {c : Cfg} {mem ts P S L : List Int} (hg : Good c) (h : KInv c mem ts P S L) (hts : (ts.length : Int) < c.bu) :
    ∃ P' S', (bsRun c 24 (mem, ts, flushBS ts)).2.2.pc = .done ∧ (bsRun c 24 (mem, ts, flushBS ts)).2.1 = [] ∧ KInv c (bsRun c 24 (mem, ts, flushBS ts)).1 [] P' S' L := by
  have hbu : 1 ≤ c.bu ∧ c.bu ≤ 4 := by unfold Good at hg; omega
  by_cases he : ts = []
  · subst he
    obtain ⟨d1, d2, d3⟩ := bsRun_done (c := c) (mem := mem) (ts := []) (s := flushBS []) rfl 24
    rw [d1, d2, d3]
    exact ⟨P, S, rfl, rfl, h⟩
  · have hpos : 0 < ts.length := List.length_pos_iff.2 he
    have hF : flushBS ts = ⟨.puts, 0, newCM 0 0, putM ts, Ev.zero⟩ := by
      unfold flushBS
      rw [if_neg he]
      have : ts.take 4 = ts := List.take_of_length_le (by omega)
      simp [putAll, this]
    obtain ⟨mem', j, p, x, P', S', er, hbz, hK', _⟩ := h.flush hg hpos (by omega)
    have e4 := puts_end (c := c) (ts := ts) (v := 0) (cm := newCM 0 0) (ev := Ev.zero) (6 + ts.length) (fun j hj => hbz j (by omega)) (mem' := mem') (pm' := ⟨.done, ts, j, p, x⟩) (by rw [show 6 + ts.length + 1 = 7 + ts.length from by omega]; exact er) rfl
    have e24 : bsRun c 24 (mem, ts, flushBS ts) = bsRun c (17 - ts.length) (mem', [], ⟨.done, 0, newCM 0 0, ⟨.done, ts, j, p, x⟩, Ev.zero⟩) := by
      rw [show 24 = (6 + ts.length + 1) + (17 - ts.length) from by omega, bsRun_add, hF, e4]
    obtain ⟨d1, d2, d3⟩ := bsRun_done (c := c) (mem := mem') (ts := []) (s := ⟨.done, 0, newCM 0 0, ⟨.done, ts, j, p, x⟩, Ev.zero⟩) rfl (17 - ts.length)
    rw [e24, d1, d2, d3]
    exact ⟨P', S', rfl, rfl, hK'⟩

/-- What is in the pool. -/
theorem KInv.held {c : Cfg} {mem ts P S L : List Int} (hg : Good c) (h : KInv c mem ts P S L) : (heldL c mem ++ ts).Perm (L.map fun v => pairI v 0) := by
  obtain ⟨f, hc, hp⟩ := h.cont
  have := h.few
  have := many_more hg
  rw [held_is hg h.inv (by omega) (fun p hp => ⟨(hc p hp).1, (hc p hp).2.2⟩)]
  exact hp

/-- Where words of nodes stand: no two in one place. -/
theorem node_ne {c : Cfg} {v u j i : Int} (hv : 1 ≤ v ∧ v ≤ nN c) (hu : 1 ≤ u ∧ u ≤ nN c) (hj : 0 ≤ j ∧ j < 4 + room c v) (hi : 0 ≤ i ∧ i < 4 + room c u) (h : v ≠ u ∨ j ≠ i) : pNode c v j ≠ pNode c u i := by
  have hr : ∀ w : Int, 1 ≤ w ∧ w ≤ nN c → room c w = (rooms c)[(w - 1).toNat]?.getD 0 := fun w hw => by unfold room; rw [if_pos hw]
  unfold pNode
  rw [if_pos hv, if_pos hu]
  have key : ∀ a b : Int, 1 ≤ a → a < b → b ≤ nN c → atI c (a - 1).toNat + (4 + room c a) ≤ atI c (b - 1).toNat := fun a b ha hab hb => by
    have h1 := atI_succ (c := c) (k := (a - 1).toNat) (by omega)
    have h3 := atI_mono (c := c) ((a - 1).toNat + 1) (b - 1).toNat (by omega) (by omega)
    rw [hr a (by omega)]
    omega
  rcases Int.lt_trichotomy v u with h' | h' | h'
  · have := key v u hv.1 h' hu.2; omega
  · subst h'; rcases h with h | h
    · exact absurd rfl h
    · omega
  · have := key u v hu.1 h' hv.2; omega

theorem linkTo_zero {c : Cfg} (hg : Good c) (k : Nat) (hk : (k : Int) < manyI c) (a : Int) (h5 : a ≠ 5) (hl : ∀ p, 1 ≤ p → p ≤ manyI c → a ≠ lnk c p) : mget (linkTo c k) a = 0 := by
  induction k with
  | zero =>
    unfold mget linkTo
    split
    · rw [List.getElem?_set_ne (by omega)]
      simp [List.getElem?_replicate]
      split <;> rfl
    · rfl
  | succ k ih =>
    rw [linkTo, mget_other (hl (k + 1) (by omega) (by omega)), ih (by omega)]

theorem freeTo_same {c : Cfg} (j : Nat) (hj : (j : Int) ≤ nN c - 1) (hn : 1 ≤ nN c) (a : Int) (h1 : ∀ v : Int, 1 ≤ v → v ≤ nN c → a ≠ pNode c v 0 ∧ a ≠ pNode c v 1 ∧ a ≠ pNode c v 3 ∧ a ≠ pHead c (clsI c v)) : mget (freeTo c j) a = mget (linkTo c (manyI c - 1).toNat) a := by
  induction j with
  | zero =>
    have := h1 (nN c) (by omega) (by omega)
    rw [freeTo, mget_other this.1, mget_other this.2.1]
  | succ j ih =>
    have := h1 (nN c - 1 - j) (by omega) (by omega)
    simp only [freeTo]
    rw [mget_other this.2.2.2, mget_other this.2.2.1, ih (by omega)]

theorem firstL_mark {c : Cfg} (hg : Good c) {v : Int} (hv : 1 ≤ v ∧ v ≤ nN c) : mget (firstL c) (pNode c v 2) = 0 := by
  have hn := nN_bound hg
  have hmb := manyI_bound hg
  have hp := mark_place hg hv
  have hnd := node0_bound hg
  have hks : pksI c ≤ node0I c := by show pksI c ≤ pksI c + manyI c * 6; omega
  unfold firstL
  rw [freeTo_same _ (by omega) hn.1 _ (fun u u1 u2 => ⟨node_ne hv ⟨u1, u2⟩ (by have := room_bound c v; omega) (by have := room_bound c u; omega) (.inr (by omega)), node_ne hv ⟨u1, u2⟩ (by have := room_bound c v; omega) (by have := room_bound c u; omega) (.inr (by omega)), node_ne hv ⟨u1, u2⟩ (by have := room_bound c v; omega) (by have := room_bound c u; omega) (.inr (by omega)), by have := head_place hg u1 u2; omega⟩)]
  refine linkTo_zero hg _ (by omega) _ (by omega) (fun p p1 p2 => ?_)
  have := pack_place hg p1 p2 (j := 1) (by omega) (by omega)
  show pNode c v 2 ≠ pPack c p 1
  omega

theorem firstL_work {c : Cfg} (hg : Good c) : mget (firstL c) 1 = 0 := by
  have hn := nN_bound hg
  have hmb := manyI_bound hg
  have hnd := node0_bound hg
  unfold firstL
  rw [freeTo_get hg _ (by omega) 1 (.inl (by omega))]
  refine linkTo_zero hg _ (by omega) _ (by omega) (fun p p1 p2 => ?_)
  have := pack_place hg p1 p2 (j := 1) (by omega) (by omega)
  show 1 ≠ pPack c p 1
  omega

/-- At first. -/
theorem keep_first {c : Cfg} (hg : Good c) : KInv c (firstL c) [] [] (upL 1 (manyI c).toNat) [] := by
  have hmb := manyI_bound hg
  exact ⟨seqFirst hg, ⟨fun _ => [], fun p hp => by simp at hp, by simp⟩, by simp, fun v hv => by simp at hv, fun v v1 v2 => .inr ⟨firstL_mark hg ⟨v1, v2⟩, by simp⟩, by rw [firstL_work hg]; rfl, by rw [upL_len]; simp; omega⟩

/-- A node's mark is set. -/
theorem KInv.mark {c : Cfg} {mem P S : List Int} (hg : Good c) (h : KInv c mem [] P S []) (u : Int) : KInv c (mput mem (pNode c u 2) 4) [] P S [] := by
  by_cases hu : 1 ≤ u ∧ u ≤ nN c
  · have hp := mark_place hg hu
    have hn := node0_bound hg
    have hA := allI_bound hg
    have hlen := h.inv.len
    obtain ⟨hI, hc⟩ := h.frame hg (mem' := mput mem (pNode c u 2) 4) (by rw [mput_len]) (fun a a1 a2 => by rw [mget_other (by omega)])
    refine ⟨hI, hc, h.nd, h.rng, fun v v1 v2 => ?_, by rw [mget_other (by omega)]; exact h.work, h.all⟩
    by_cases e : v = u
    · subst e; left; rw [mget_put (by omega)]
    · rw [mget_other (mark_ne ⟨v1, v2⟩ hu e)]
      exact h.mrk v v1 v2
  · have : pNode c u 2 = -1 := if_neg hu
    rw [this]
    have : mput mem (-1) 4 = mem := if_neg (by omega)
    rw [this]
    exact h

end Go.Proofs.Ytapdpclgbpgklaa
