/- Tasks that are put somewhere: their steps see no word of a node. Plain numbers. No program. -/
import Derived.Test.YtapdpclgbpgklaaGreatPkI
namespace Go.Proofs.YtapdpclgbpgklaaGreat
open Go.RowKit

/-- Two memories have the same words ahead of N. -/
structure Ag (N : Int) (m m' : List Int) : Prop where
  len : m'.length = m.length
  eq : ∀ a, a < N → mget m' a = mget m a

theorem Ag.refl (N : Int) (m : List Int) : Ag N m m := ⟨rfl, fun _ _ => rfl⟩

theorem Ag.put {N : Int} {m m' : List Int} (h : Ag N m m') (a x : Int) : Ag N (mput m a x) (mput m' a x) := by
  refine ⟨by rw [mput_len, mput_len]; exact h.len, fun b hb => ?_⟩
  by_cases e : b = a
  · subst e
    by_cases hr : 0 ≤ b ∧ b < m.length
    · rw [mget_put hr, mget_put (by rw [h.len]; exact hr)]
    · unfold mput; rw [if_neg hr, if_neg (by rw [h.len]; exact hr)]; exact h.eq b hb
  · rw [mget_other e, mget_other e]; exact h.eq b hb

theorem Ag.far {N : Int} {m m' : List Int} (h : Ag N m m') {a : Int} (ha : N ≤ a) (x : Int) : Ag N m (mput m' a x) :=
  ⟨by rw [mput_len]; exact h.len, fun b hb => by rw [mget_other (by omega)]; exact h.eq b hb⟩

theorem Ag.hit {N : Int} {m m' : List Int} (h : Ag N m m') {a : Int} (ha : a < N) (k : Int) : mhit m' a k = mhit m a k := by
  unfold mhit; rw [h.len, h.eq a ha]

/-- What a step of a machine does that sees the words ahead of N alone. -/
structure Lo {σ : Type} (N : Int) (m m' : List Int) (r r' : List Int × σ) : Prop where
  st : r'.2 = r.2
  ag : Ag N r.1 r'.1
  far : ∀ a, N ≤ a → mget r.1 a = mget m a
  far' : ∀ a, N ≤ a → mget r'.1 a = mget m' a

theorem Lo.same {σ : Type} {N : Int} {m m' : List Int} (h : Ag N m m') (s : σ) : Lo N m m' (m, s) (m', s) := ⟨rfl, h, fun _ _ => rfl, fun _ _ => rfl⟩

theorem Lo.put {σ : Type} {N : Int} {m m' : List Int} (h : Ag N m m') {a : Int} (ha : a < N) (x : Int) (s : σ) : Lo N m m' (mput m a x, s) (mput m' a x, s) :=
  ⟨rfl, h.put a x, fun b hb => mget_other (by omega), fun b hb => mget_other (by omega)⟩

theorem sm_loc {N : Int} {lf : Int → Int} {m m' : List Int} {s : SM} (h : Ag N m m') (hh : s.head < N) (hl : ∀ p, lf p < N) : Lo N m m' (smStep lf m s) (smStep lf m' s) ∧ (smStep lf m s).2.head = s.head := by
  obtain ⟨pc, hd, it, hw, lk⟩ := s
  simp only at hh
  cases pc <;> simp only [smStep, h.eq _ hh, h.eq _ (hl _), h.hit hh]
  case done => exact ⟨Lo.same h _, trivial⟩
  case pushHead => exact ⟨Lo.same h _, trivial⟩
  case pushLink => exact ⟨Lo.put h (hl _) _ _, trivial⟩
  case pushSwap => split; exact ⟨Lo.put h hh _ _, rfl⟩; exact ⟨Lo.same h _, rfl⟩
  case popHead => exact ⟨Lo.same h _, trivial⟩
  case popLink => exact ⟨Lo.same h _, trivial⟩
  case popSwap => split; exact ⟨Lo.put h hh _ _, rfl⟩; exact ⟨Lo.same h _, rfl⟩

theorem pPack_lt {c : Cfg} (hg : Good c) (p : Int) {j : Int} (h0 : 0 ≤ j) (h1 : j ≤ 5) : pPack c p j < node0I c := by
  by_cases h : 1 ≤ p ∧ p ≤ manyI c
  · exact (pack_place hg h.1 h.2 h0 h1).2.1
  · have hn := node0_bound hg
    unfold pPack; rw [if_neg h]; omega

theorem pTask_lt {c : Cfg} (hg : Good c) (p j : Int) : pTask c p j < node0I c := by
  unfold pTask
  split
  · exact pPack_lt hg p (by omega) (by omega)
  · have hn := node0_bound hg; omega

theorem pm_loc {c : Cfg} {m m' : List Int} {s : PM} (hg : Good c) (h : Ag (node0I c) m m') (hh : s.x.head < 12) : Lo (node0I c) m m' (pmStep c m s) (pmStep c m' s) ∧ (pmStep c m s).2.x.head < 12 := by
  have hn := node0_bound hg
  have hl : ∀ p, lnk c p < node0I c := fun p => pPack_lt hg p (by omega) (by omega)
  obtain ⟨⟨e1, e2, e3, e4⟩, e5⟩ := sm_loc (lf := lnk c) h (show s.x.head < node0I c by omega) hl
  obtain ⟨pc, ts, j, p, x⟩ := s
  simp only at hh e1 e2 e3 e4 e5
  cases pc <;> simp only [pmStep]
  case done => exact ⟨Lo.same h _, hh⟩
  case spare =>
    simp only [pmSpare, e1]
    refine ⟨⟨rfl, e2, e3, e4⟩, ?_⟩
    split
    · split
      · show (5 : Int) < 12; omega
      · show SM.head _ < 12; rw [e5]; exact hh
    · show SM.head _ < 12; rw [e5]; exact hh
  case fill => exact ⟨Lo.put h (pTask_lt hg _ _) _ _, hh⟩
  case many => exact ⟨Lo.put h (pPack_lt hg _ (by omega) (by omega)) _ _, by show (4 : Int) < 12; omega⟩
  case last =>
    simp only [pmLast, e1]
    refine ⟨⟨rfl, e2, e3, e4⟩, ?_⟩
    split
    · show SM.head _ < 12; rw [e5]; exact hh
    · show SM.head _ < 12; rw [e5]; exact hh

theorem pEnd_far {c : Cfg} (hg : Good c) (i : Int) {j : Int} (h0 : 0 ≤ j) (h1 : j < 2 + c.dq) : pEnd c i j < node0I c := by
  have hn := node0_bound hg
  have hmb := manyI_bound hg
  by_cases h : 0 ≤ i ∧ i < c.mks
  · have := (pEnd_is hg h h0 h1).2.2
    have : pksI c ≤ node0I c := by unfold node0I; omega
    omega
  · unfold pEnd; rw [if_neg h]; omega

theorem ent_far {c : Cfg} (hg : Good c) (i x : Int) : entI (endsOf c i) x < node0I c := by
  have hn := node0_bound hg
  have hmb := manyI_bound hg
  have hq : 2 ≤ c.dq ∧ c.dq ≤ 8 := by unfold Good at hg; omega
  have e1 : max c.dq 1 = c.dq := by omega
  unfold entI endsOf
  simp only [e1]
  have z0 : 0 ≤ x % c.dq := Int.emod_nonneg _ (by omega)
  have z1 : x % c.dq < c.dq := Int.emod_lt_of_pos _ (by omega)
  unfold pEntry
  rw [if_pos (by omega)]
  by_cases h : 0 ≤ i ∧ i < c.mks
  · have a0 := (pEnd_is hg h (j := 2 + 0) (by omega) (by omega)).1
    have a1 := pEnd_is hg h (j := 2 + x % c.dq) (by omega) (by omega)
    have : pksI c ≤ node0I c := by unfold node0I; omega
    omega
  · unfold pEnd; rw [if_neg h]; omega

theorem dq_loc {c : Cfg} {i : Int} {m m' : List Int} {d : DQ} (hg : Good c) (h : Ag (node0I c) m m') : Lo (node0I c) m m' (dqStep (endsOf c i) m d) (dqStep (endsOf c i) m' d) := by
  have hq : 2 ≤ c.dq ∧ c.dq ≤ 8 := by unfold Good at hg; omega
  have h0 : (endsOf c i).tp < node0I c := pEnd_far hg i (by omega) (by omega)
  have h1 : (endsOf c i).bt < node0I c := pEnd_far hg i (by omega) (by omega)
  have h2 := ent_far hg i
  obtain ⟨pc, b, t, wd, o, wn⟩ := d
  cases pc <;> simp only [dqStep, h.eq _ h0, h.eq _ h1, h.eq _ (h2 _), h.hit h0]
  case done => exact Lo.same h _
  case pushBottom => exact Lo.same h _
  case pushTop => exact Lo.same h _
  case pushEntry => exact Lo.put h (h2 _) _ _
  case pushEnd => exact Lo.put h h1 _ _
  case popBottom => exact Lo.same h _
  case popDown => exact Lo.put h h1 _ _
  case popTop => exact Lo.same h _
  case popEntry => exact Lo.same h _
  case popSwap => split; exact Lo.put h h0 _ _; exact Lo.same h _
  case popBack => exact Lo.put h h1 _ _

theorem am_loc {c : Cfg} {i : Int} {m m' : List Int} {s : AM} (hg : Good c) (h : Ag (node0I c) m m') (hh : s.put.x.head < 12) : Lo (node0I c) m m' (amStep c i m s) (amStep c i m' s) ∧ (amStep c i m s).2.put.x.head < 12 := by
  obtain ⟨e1, e2, e3, e4⟩ := dq_loc (i := i) (d := s.dq) hg h
  obtain ⟨⟨f1, f2, f3, f4⟩, f5⟩ := pm_loc (s := s.put) hg h hh
  obtain ⟨pc, task, dq, put, sp⟩ := s
  simp only at hh e1 e2 e3 e4 f1 f2 f3 f4 f5
  cases pc <;> simp only [amStep]
  case done => exact ⟨Lo.same h _, hh⟩
  case own =>
    simp only [e1]
    refine ⟨⟨rfl, e2, e3, e4⟩, ?_⟩
    split
    · split
      · show (5 : Int) < 12; omega
      · exact hh
    · exact hh
  case pool =>
    simp only [f1]
    exact ⟨⟨rfl, f2, f3, f4⟩, f5⟩

theorem pm_head {c : Cfg} {m : List Int} {s : PM} (hh : 4 ≤ s.x.head ∧ s.x.head < 12) : 4 ≤ (pmStep c m s).2.x.head ∧ (pmStep c m s).2.x.head < 12 := by
  have e5 : (smStep (lnk c) m s.x).2.head = s.x.head := by
    obtain ⟨pc, ts, j, p, ⟨xp, hd, it, hw, lk⟩⟩ := s
    cases xp <;> simp only [smStep]
    case pushSwap => split <;> rfl
    case popSwap => split <;> rfl
  obtain ⟨pc, ts, j, p, x⟩ := s
  simp only at hh e5
  cases pc <;> simp only [pmStep]
  case done => exact hh
  case spare =>
    simp only [pmSpare]
    split
    · split
      · show (4 : Int) ≤ 5 ∧ (5 : Int) < 12; omega
      · show 4 ≤ SM.head _ ∧ SM.head _ < 12; rw [e5]; exact hh
    · show 4 ≤ SM.head _ ∧ SM.head _ < 12; rw [e5]; exact hh
  case fill => exact hh
  case many => show (4 : Int) ≤ 4 ∧ (4 : Int) < 12; omega
  case last =>
    simp only [pmLast]
    split
    · show 4 ≤ SM.head _ ∧ SM.head _ < 12; rw [e5]; exact hh
    · show 4 ≤ SM.head _ ∧ SM.head _ < 12; rw [e5]; exact hh

theorem am_head {c : Cfg} {i : Int} {m : List Int} {s : AM} (hh : 4 ≤ s.put.x.head ∧ s.put.x.head < 12) : 4 ≤ (amStep c i m s).2.put.x.head ∧ (amStep c i m s).2.put.x.head < 12 := by
  have h2 := pm_head (c := c) (m := m) hh
  obtain ⟨pc, task, dq, put, sp⟩ := s
  simp only at hh h2
  cases pc <;> simp only [amStep]
  case done => exact hh
  case own =>
    split
    · split
      · show (4 : Int) ≤ 5 ∧ (5 : Int) < 12; omega
      · exact hh
    · exact hh
  case pool => exact h2

theorem amRun_head {c : Cfg} {i : Int} (_hg : Good c) (x : Int) (mem : List Int) (j : Nat) : 4 ≤ (amRun c i j (mem, newAM c i x)).2.put.x.head ∧ (amRun c i j (mem, newAM c i x)).2.put.x.head < 12 := by
  induction j with
  | zero => show (4 : Int) ≤ 5 ∧ (5 : Int) < 12; omega
  | succ j ih => exact am_head ih

/-- No word ahead of the first head is changed. -/
theorem sm_one {lf : Int → Int} {m : List Int} {s : SM} {a : Int} (hh : s.head ≠ a) (hl : ∀ p, lf p ≠ a) : mget (smStep lf m s).1 a = mget m a ∧ (smStep lf m s).1.length = m.length := by
  obtain ⟨pc, hd, it, hw, lk⟩ := s
  simp only at hh
  cases pc <;> simp only [smStep]
  case pushLink => exact ⟨mget_other (Ne.symm (hl _)), mput_len _ _ _⟩
  case pushSwap =>
    split
    · exact ⟨mget_other (Ne.symm hh), mput_len _ _ _⟩
    · exact ⟨rfl, rfl⟩
  case popSwap =>
    split
    · exact ⟨mget_other (Ne.symm hh), mput_len _ _ _⟩
    · exact ⟨rfl, rfl⟩
  all_goals exact ⟨trivial, trivial⟩

theorem pPack_one {c : Cfg} (hg : Good c) (p : Int) {j : Int} (h0 : 0 ≤ j) (h1 : j ≤ 5) : pPack c p j ≠ 1 := by
  by_cases h : 1 ≤ p ∧ p ≤ manyI c
  · have := pack_place hg h.1 h.2 h0 h1; omega
  · unfold pPack; rw [if_neg h]; omega

theorem pTask_one {c : Cfg} (hg : Good c) (p j : Int) : pTask c p j ≠ 1 := by
  unfold pTask
  split
  · exact pPack_one hg p (by omega) (by omega)
  · omega

theorem pm_one {c : Cfg} {m : List Int} {s : PM} (hg : Good c) (hh : 4 ≤ s.x.head) : mget (pmStep c m s).1 1 = mget m 1 ∧ (pmStep c m s).1.length = m.length := by
  have e := sm_one (lf := lnk c) (m := m) (s := s.x) (a := 1) (by omega) (fun p => pPack_one hg p (by omega) (by omega))
  obtain ⟨pc, ts, j, p, x⟩ := s
  simp only at hh e
  cases pc <;> simp only [pmStep]
  case spare => exact e
  case fill => exact ⟨mget_other (Ne.symm (pTask_one hg _ _)), mput_len _ _ _⟩
  case many => exact ⟨mget_other (Ne.symm (pPack_one hg _ (by omega) (by omega))), mput_len _ _ _⟩
  case last => exact e
  all_goals exact ⟨trivial, trivial⟩

theorem dq_one {c : Cfg} {i : Int} {m : List Int} {d : DQ} (hg : Good c) (hi : 0 ≤ i ∧ i < c.mks) : mget (dqStep (endsOf c i) m d).1 1 = mget m 1 ∧ (dqStep (endsOf c i) m d).1.length = m.length := by
  have hq : 2 ≤ c.dq ∧ c.dq ≤ 8 := by unfold Good at hg; omega
  have e1 : max c.dq 1 = c.dq := by omega
  have h0 : (endsOf c i).tp ≠ 1 := by have := pEnd_is hg hi (j := 0) (by omega) (by omega); show pEnd c i 0 ≠ 1; omega
  have h1 : (endsOf c i).bt ≠ 1 := by have := pEnd_is hg hi (j := 1) (by omega) (by omega); show pEnd c i 1 ≠ 1; omega
  have h2 : ∀ x, entI (endsOf c i) x ≠ 1 := fun x => by
    have z0 : 0 ≤ x % c.dq := Int.emod_nonneg _ (by omega)
    have := pEnd_is hg hi (j := 2 + 0) (by omega) (by omega)
    unfold entI endsOf
    simp only [e1]
    unfold pEntry
    rw [if_pos (by omega)]
    omega
  obtain ⟨pc, b, t, wd, o, wn⟩ := d
  cases pc <;> simp only [dqStep]
  case pushEntry => exact ⟨mget_other (Ne.symm (h2 _)), mput_len _ _ _⟩
  case pushEnd => exact ⟨mget_other (Ne.symm h1), mput_len _ _ _⟩
  case popDown => exact ⟨mget_other (Ne.symm h1), mput_len _ _ _⟩
  case popSwap =>
    split
    · exact ⟨mget_other (Ne.symm h0), mput_len _ _ _⟩
    · exact ⟨rfl, rfl⟩
  case popBack => exact ⟨mget_other (Ne.symm h1), mput_len _ _ _⟩
  all_goals exact ⟨trivial, trivial⟩

theorem am_one2 {c : Cfg} {i : Int} {m : List Int} {s : AM} (hg : Good c) (hi : 0 ≤ i ∧ i < c.mks) (hh : 4 ≤ s.put.x.head) : mget (amStep c i m s).1 1 = mget m 1 ∧ (amStep c i m s).1.length = m.length := by
  have e := dq_one (m := m) (d := s.dq) hg hi
  have f := pm_one (m := m) (s := s.put) hg hh
  obtain ⟨pc, task, dq, put, sp⟩ := s
  simp only at hh e f
  cases pc <;> simp only [amStep]
  case own => exact e
  case pool => exact f
  all_goals exact ⟨trivial, trivial⟩

theorem am_one {c : Cfg} {i : Int} {m : List Int} {s : AM} (hg : Good c) (hi : 0 ≤ i ∧ i < c.mks) (hh : 4 ≤ s.put.x.head ∧ s.put.x.head < 12) : mget (amStep c i m s).1 1 = mget m 1 := (am_one2 hg hi hh.1).1

end Go.Proofs.YtapdpclgbpgklaaGreat
