/- How the bounds grow: numbers alone. -/
import Derived.Test.YtfamlfemdegmpaaBnd5
namespace Go.Proofs.Ytfamlfemdegmpaa
open Go.RowKit

theorem sumI_replicate (n : Nat) (x : Int) : sumI (List.replicate n x) = n * x := by
  induction n with
  | zero => simp [sumI]
  | succ n ih => rw [List.replicate_succ]; simp only [sumI, List.foldr_cons] at *; rw [ih]; push_cast; rw [Int.add_mul]; omega

theorem roomsC_eq (c : Cfg) : roomsC c = List.replicate c.c0.toNat 1 ++ (List.replicate c.c1.toNat 2 ++ (List.replicate c.c2.toNat 4 ++ (List.replicate c.c3.toNat 8 ++ List.replicate c.c4.toNat 16))) := by
  show roomsI (cellsL c) 5 = _
  simp [roomsI, cellsL, List.range_succ, slotsI]

theorem tasksI_eq {c : Cfg} (h : Good c) : tasksI c = c.c0 * countI 1 c.ch + (c.c1 * countI 2 c.ch + (c.c2 * countI 4 c.ch + (c.c3 * countI 8 c.ch + c.c4 * countI 16 c.ch))) := by
  unfold tasksI mostI
  rw [roomsC_eq]
  simp only [List.map_append, List.map_replicate, sumI_append, sumI_replicate]
  obtain ⟨h0, h1, h2, h3, h4, _⟩ := h
  rw [Int.toNat_of_nonneg h0.1, Int.toNat_of_nonneg h1.1, Int.toNat_of_nonneg h2.1, Int.toNat_of_nonneg h3.1, Int.toNat_of_nonneg h4.1]

theorem slotsSumI_eq {c : Cfg} (h : Good c) : slotsSumI c = c.c0 + 2 * c.c1 + 4 * c.c2 + 8 * c.c3 + 16 * c.c4 := by
  unfold slotsSumI
  rw [roomsC_eq]
  simp only [sumI_append, sumI_replicate]
  obtain ⟨h0, h1, h2, h3, h4, _⟩ := h
  rw [Int.toNat_of_nonneg h0.1, Int.toNat_of_nonneg h1.1, Int.toNat_of_nonneg h2.1, Int.toNat_of_nonneg h3.1, Int.toNat_of_nonneg h4.1]
  omega

theorem countI_small {s ch : Int} (hs : 1 ≤ s) (hs2 : s ≤ 16) (h1 : 1 ≤ ch) (h2 : ch ≤ 16) : countI s ch = (s + ch - 1) / ch := by
  have e1 : sI s = s := by unfold sI clampI; omega
  have e2 : clampI 1 ch 1000 = ch := by unfold clampI; omega
  unfold countI; rw [e1, e2, if_neg (by omega)]

theorem countI_le {s ch : Int} (hs : 1 ≤ s) (hs2 : s ≤ 16) (h1 : 1 ≤ ch) (h2 : ch ≤ 16) : countI s ch ≤ s := by
  rw [countI_small hs hs2 h1 h2]
  have : (s + ch - 1) / ch < s + 1 := by
    rw [Int.ediv_lt_iff_lt_mul (by omega)]
    have : s * 1 ≤ s * ch := Int.mul_le_mul_of_nonneg_left h1 (by omega)
    have e : (s + 1) * ch = s * ch + ch := by rw [Int.add_mul, Int.one_mul]
    omega
  omega

theorem countI_anti {s ch ch' : Int} (hs : 1 ≤ s) (hs2 : s ≤ 16) (h1 : 1 ≤ ch) (h2 : ch ≤ ch') (h3 : ch' ≤ 16) : countI s ch' ≤ countI s ch := by
  rw [countI_small hs hs2 h1 (by omega), countI_small hs hs2 (by omega) h3]
  generalize hq : (s + ch - 1) / ch = q
  have hq0 : 0 ≤ q := by rw [← hq]; exact Int.ediv_nonneg (by omega) (by omega)
  -- s ≤ q * ch
  have h4 : s + ch - 1 < (q + 1) * ch := by
    have := Int.lt_ediv_add_one_mul_self (s + ch - 1) (show 0 < ch by omega)
    rw [hq] at this; exact this
  have e4 : (q + 1) * ch = q * ch + ch := by rw [Int.add_mul, Int.one_mul]
  have h5 : q * ch ≤ q * ch' := Int.mul_le_mul_of_nonneg_left h2 hq0
  have e5 : (q + 1) * ch' = q * ch' + ch' := by rw [Int.add_mul, Int.one_mul]
  have : (s + ch' - 1) / ch' < q + 1 := by
    rw [Int.ediv_lt_iff_lt_mul (by omega)]; omega
  omega

theorem windowsI_mono {c d : Cfg} (hc : Good c) (hd : Good d) (hT : tasksI c ≤ tasksI d) (hS : slotsSumI c ≤ slotsSumI d) (hA : c.mks + c.mus ≤ d.mks + d.mus) : windowsI c ≤ windowsI d := by
  have h0 := (tasks_bound hc).1
  have a1 : 8 * (c.mks + c.mus + 1) * tasksI c ≤ 8 * (d.mks + d.mus + 1) * tasksI d := by
    obtain ⟨_, _, _, _, _, hm, hu, _⟩ := hd
    exact Int.mul_le_mul (by omega) hT h0 (by omega)
  unfold windowsI eventsI
  generalize 8 * (c.mks + c.mus + 1) * tasksI c = p at *
  generalize 8 * (d.mks + d.mus + 1) * tasksI d = q at *
  omega

def chLess (c : Cfg) : Cfg := { c with ch := max (c.ch - 1) 1 }
def mkMore (c : Cfg) : Cfg := { c with mks := min (c.mks + 1) 4 }

theorem chLess_good {c : Cfg} (h : Good c) : Good (chLess c) := by unfold Good chLess at *; simp only; omega
theorem mkMore_good {c : Cfg} (h : Good c) : Good (mkMore c) := by unfold Good mkMore at *; simp only; omega

theorem mul_le_right {a x y : Int} (ha : 0 ≤ a) (h : x ≤ y) : a * x ≤ a * y := Int.mul_le_mul_of_nonneg_left h ha

theorem chLess_windows {c : Cfg} (h : Good c) : windowsI c ≤ windowsI (chLess c) := by
  refine windowsI_mono h (chLess_good h) ?_ ?_ (Int.le_refl _)
  · rw [tasksI_eq h, tasksI_eq (chLess_good h)]
    obtain ⟨h0, h1, h2, h3, h4, _, _, _, hch, _⟩ := h
    have hm : 1 ≤ max (c.ch - 1) 1 := by omega
    have hm2 : max (c.ch - 1) 1 ≤ c.ch := by omega
    have k0 := mul_le_right h0.1 (countI_anti (s := 1) (by omega) (by omega) hm hm2 hch.2)
    have k1 := mul_le_right h1.1 (countI_anti (s := 2) (by omega) (by omega) hm hm2 hch.2)
    have k2 := mul_le_right h2.1 (countI_anti (s := 4) (by omega) (by omega) hm hm2 hch.2)
    have k3 := mul_le_right h3.1 (countI_anti (s := 8) (by omega) (by omega) hm hm2 hch.2)
    have k4 := mul_le_right h4.1 (countI_anti (s := 16) (by omega) (by omega) hm hm2 hch.2)
    show _ ≤ c.c0 * countI 1 (max (c.ch - 1) 1) + (c.c1 * countI 2 (max (c.ch - 1) 1) + (c.c2 * countI 4 (max (c.ch - 1) 1) + (c.c3 * countI 8 (max (c.ch - 1) 1) + c.c4 * countI 16 (max (c.ch - 1) 1))))
    omega
  · rw [slotsSumI_eq h, slotsSumI_eq (chLess_good h)]; exact Int.le_refl _

theorem mkMore_windows {c : Cfg} (h : Good c) : windowsI c ≤ windowsI (mkMore c) := by
  have h' := mkMore_good h
  refine windowsI_mono h h' ?_ ?_ ?_
  · rw [tasksI_eq h, tasksI_eq h']; exact Int.le_refl _
  · rw [slotsSumI_eq h, slotsSumI_eq h']; exact Int.le_refl _
  · obtain ⟨_, _, _, _, _, hm, _⟩ := h
    show c.mks + c.mus ≤ min (c.mks + 1) 4 + c.mus
    omega

def cellMore0 (c : Cfg) : Cfg := { c with c0 := min (c.c0 + 1) 12 }
theorem cellMore0_good {c : Cfg} (h : Good c) : Good (cellMore0 c) := by unfold Good cellMore0 at *; simp only; omega
theorem cellMore0_windows {c : Cfg} (h : Good c) : windowsI c ≤ windowsI (cellMore0 c) := by
  have h' := cellMore0_good h
  refine windowsI_mono h h' ?_ ?_ (Int.le_refl _)
  · rw [tasksI_eq h, tasksI_eq h']
    have hk : c.c0 ≤ min (c.c0 + 1) 12 := by obtain ⟨h0, h1, h2, h3, h4, _⟩ := h; omega
    have := Int.mul_le_mul_of_nonneg_right hk (show 0 ≤ countI 1 c.ch by have := countI_bound 1 c.ch; omega)
    simp only [cellMore0]
    omega
  · rw [slotsSumI_eq h, slotsSumI_eq h']
    have hk : c.c0 ≤ min (c.c0 + 1) 12 := by obtain ⟨h0, h1, h2, h3, h4, _⟩ := h; omega
    simp only [cellMore0]
    omega

def cellMore1 (c : Cfg) : Cfg := { c with c1 := min (c.c1 + 1) 12 }
theorem cellMore1_good {c : Cfg} (h : Good c) : Good (cellMore1 c) := by unfold Good cellMore1 at *; simp only; omega
theorem cellMore1_windows {c : Cfg} (h : Good c) : windowsI c ≤ windowsI (cellMore1 c) := by
  have h' := cellMore1_good h
  refine windowsI_mono h h' ?_ ?_ (Int.le_refl _)
  · rw [tasksI_eq h, tasksI_eq h']
    have hk : c.c1 ≤ min (c.c1 + 1) 12 := by obtain ⟨h0, h1, h2, h3, h4, _⟩ := h; omega
    have := Int.mul_le_mul_of_nonneg_right hk (show 0 ≤ countI 2 c.ch by have := countI_bound 2 c.ch; omega)
    simp only [cellMore1]
    omega
  · rw [slotsSumI_eq h, slotsSumI_eq h']
    have hk : c.c1 ≤ min (c.c1 + 1) 12 := by obtain ⟨h0, h1, h2, h3, h4, _⟩ := h; omega
    simp only [cellMore1]
    omega

def cellMore2 (c : Cfg) : Cfg := { c with c2 := min (c.c2 + 1) 12 }
theorem cellMore2_good {c : Cfg} (h : Good c) : Good (cellMore2 c) := by unfold Good cellMore2 at *; simp only; omega
theorem cellMore2_windows {c : Cfg} (h : Good c) : windowsI c ≤ windowsI (cellMore2 c) := by
  have h' := cellMore2_good h
  refine windowsI_mono h h' ?_ ?_ (Int.le_refl _)
  · rw [tasksI_eq h, tasksI_eq h']
    have hk : c.c2 ≤ min (c.c2 + 1) 12 := by obtain ⟨h0, h1, h2, h3, h4, _⟩ := h; omega
    have := Int.mul_le_mul_of_nonneg_right hk (show 0 ≤ countI 4 c.ch by have := countI_bound 4 c.ch; omega)
    simp only [cellMore2]
    omega
  · rw [slotsSumI_eq h, slotsSumI_eq h']
    have hk : c.c2 ≤ min (c.c2 + 1) 12 := by obtain ⟨h0, h1, h2, h3, h4, _⟩ := h; omega
    simp only [cellMore2]
    omega

def cellMore3 (c : Cfg) : Cfg := { c with c3 := min (c.c3 + 1) 12 }
theorem cellMore3_good {c : Cfg} (h : Good c) : Good (cellMore3 c) := by unfold Good cellMore3 at *; simp only; omega
theorem cellMore3_windows {c : Cfg} (h : Good c) : windowsI c ≤ windowsI (cellMore3 c) := by
  have h' := cellMore3_good h
  refine windowsI_mono h h' ?_ ?_ (Int.le_refl _)
  · rw [tasksI_eq h, tasksI_eq h']
    have hk : c.c3 ≤ min (c.c3 + 1) 12 := by obtain ⟨h0, h1, h2, h3, h4, _⟩ := h; omega
    have := Int.mul_le_mul_of_nonneg_right hk (show 0 ≤ countI 8 c.ch by have := countI_bound 8 c.ch; omega)
    simp only [cellMore3]
    omega
  · rw [slotsSumI_eq h, slotsSumI_eq h']
    have hk : c.c3 ≤ min (c.c3 + 1) 12 := by obtain ⟨h0, h1, h2, h3, h4, _⟩ := h; omega
    simp only [cellMore3]
    omega

def cellMore4 (c : Cfg) : Cfg := { c with c4 := min (c.c4 + 1) 12 }
theorem cellMore4_good {c : Cfg} (h : Good c) : Good (cellMore4 c) := by unfold Good cellMore4 at *; simp only; omega
theorem cellMore4_windows {c : Cfg} (h : Good c) : windowsI c ≤ windowsI (cellMore4 c) := by
  have h' := cellMore4_good h
  refine windowsI_mono h h' ?_ ?_ (Int.le_refl _)
  · rw [tasksI_eq h, tasksI_eq h']
    have hk : c.c4 ≤ min (c.c4 + 1) 12 := by obtain ⟨h0, h1, h2, h3, h4, _⟩ := h; omega
    have := Int.mul_le_mul_of_nonneg_right hk (show 0 ≤ countI 16 c.ch by have := countI_bound 16 c.ch; omega)
    simp only [cellMore4]
    omega
  · rw [slotsSumI_eq h, slotsSumI_eq h']
    have hk : c.c4 ≤ min (c.c4 + 1) 12 := by obtain ⟨h0, h1, h2, h3, h4, _⟩ := h; omega
    simp only [cellMore4]
    omega

theorem tasks_between {c : Cfg} (h : Good c) : c.c0 + c.c1 + c.c2 + c.c3 + c.c4 ≤ tasksI c ∧ tasksI c ≤ c.c0 + c.c1 + c.c2 + c.c3 + c.c4 + slotsSumI c := by
  rw [tasksI_eq h, slotsSumI_eq h]
  obtain ⟨h0, h1, h2, h3, h4, _, _, _, hch, _⟩ := h
  have l0 := mul_le_right h0.1 (countI_bound 1 c.ch).1
  have l1 := mul_le_right h1.1 (countI_bound 2 c.ch).1
  have l2 := mul_le_right h2.1 (countI_bound 4 c.ch).1
  have l3 := mul_le_right h3.1 (countI_bound 8 c.ch).1
  have l4 := mul_le_right h4.1 (countI_bound 16 c.ch).1
  have u0 := mul_le_right h0.1 (countI_le (s := 1) (by omega) (by omega) hch.1 hch.2)
  have u1 := mul_le_right h1.1 (countI_le (s := 2) (by omega) (by omega) hch.1 hch.2)
  have u2 := mul_le_right h2.1 (countI_le (s := 4) (by omega) (by omega) hch.1 hch.2)
  have u3 := mul_le_right h3.1 (countI_le (s := 8) (by omega) (by omega) hch.1 hch.2)
  have u4 := mul_le_right h4.1 (countI_le (s := 16) (by omega) (by omega) hch.1 hch.2)
  omega

theorem events_least {c : Cfg} (h : Good c) : 40 * tasksI c ≤ eventsI c ∧ eventsI c ≤ windowsI c := by
  have h1 := tasks_bound h
  have h2 := slotsSum_bound h
  have h3 := aT_bound h
  obtain ⟨_, _, _, _, _, hm, hu, _⟩ := h
  unfold windowsI eventsI
  generalize 8 * (c.mks + c.mus + 1) * tasksI c = p at *
  omega

end Go.Proofs.Ytfamlfemdegmpaa
