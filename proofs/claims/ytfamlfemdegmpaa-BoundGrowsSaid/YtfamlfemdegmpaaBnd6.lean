/- The references of the bounds, walked. -/
import Derived.Test.YtfamlfemdegmpaaBnd5
namespace Go.Proofs.Ytfamlfemdegmpaa
open Go.RowKit

theorem slotsI_bound (k : Int) : 0 ≤ slotsI k ∧ slotsI k ≤ 16 := by
  unfold slotsI; repeat (first | omega | split)

theorem slotsI_succ {j : Nat} (h : j < 4) : slotsI ((j + 1 : Nat) : Int) = slotsI j * 2 := by
  have : j = 0 ∨ j = 1 ∨ j = 2 ∨ j = 3 := by omega
  rcases this with rfl | rfl | rfl | rfl <;> rfl

theorem refslots_any (k : Nat) (hk : k < 5) (w : World) :
    Calls Try.prog 30 #[.int .i64 k] w fun e w' => e = .returned (.int .i64 (slotsI k)) ∧ w = w' := by
  go_enter Try.func30, Try.ntmps30
  go_wp2_with fail
  go_loop [3, 4] (fun n i => ∃ j : Nat, j ≤ k ∧ i = .int .i64 j ∧ n = .int .i64 (slotsI j)) (fun _ i => k - (intOf i).toNat)
  case atStart => exact ⟨0, by omega, rfl, rfl⟩
  case round =>
    obtain ⟨j, hj, rfl, rfl⟩ := hrel
    by_cases hlt : (j : Int) < k
    · have hb := slotsI_bound j
      obtain ⟨hb0, hb1⟩ := hb
      have S1 : Hid (slotsI ((j + 1 : Nat) : Int) = slotsI j * 2) := slotsI_succ (by omega)
      generalize slotsI j = x at *
      go_wp2_with fail
      refine ⟨⟨j + 1, by omega, by go_num, by rw [S1.out]⟩, by simp [intOf]; omega⟩
    · obtain rfl : j = k := by omega
      go_wp2_with fail
      go_ret
      exact ⟨rfl, rfl⟩

theorem refclamp_any (n lo hi : Int) (w : World) (h : lo ≤ hi) :
    Calls Try.prog 31 #[.int .i64 n, .int .i64 lo, .int .i64 hi] w fun e w' => e = .returned (.int .i64 (clampI lo n hi)) ∧ w = w' := by
  rcases (by omega : n < lo ∨ (lo ≤ n ∧ n ≤ hi) ∨ (lo ≤ n ∧ hi < n)) with h1 | ⟨h1, h2⟩ | ⟨h1, h2⟩
  · have e : clampI lo n hi = lo := by unfold clampI; omega
    rw [e]; clear e
    go_enter Try.func31, Try.ntmps31
    go_wp2
    go_ret
    exact ⟨rfl, rfl⟩
  · have e : clampI lo n hi = n := by unfold clampI; omega
    rw [e]; clear e
    go_enter Try.func31, Try.ntmps31
    go_wp2
    go_ret
    exact ⟨rfl, rfl⟩
  · have e : clampI lo n hi = hi := by unfold clampI; omega
    rw [e]; clear e
    go_enter Try.func31, Try.ntmps31
    go_wp2
    go_ret
    exact ⟨rfl, rfl⟩

theorem refcount_any (s ch : Int) (w : World) :
    Calls Try.prog 25 #[.int .i64 s, .int .i64 ch] w fun e w' => e = .returned (.int .i64 (countI s ch)) ∧ w = w' := by
  have b1 : 0 ≤ clampI 0 s 1000 ∧ clampI 0 s 1000 ≤ 1000 := by unfold clampI; omega
  have b3 : 1 ≤ clampI 1 ch 1000 ∧ clampI 1 ch 1000 ≤ 1000 := by unfold clampI; omega
  obtain ⟨b1, b1'⟩ := b1
  obtain ⟨b3, b3'⟩ := b3
  have q0 : 0 ≤ (clampI 0 s 1000 + clampI 1 ch 1000 - 1) / clampI 1 ch 1000 := Int.ediv_nonneg (by omega) (by omega)
  have q1 : (clampI 0 s 1000 + clampI 1 ch 1000 - 1) / clampI 1 ch 1000 ≤ 1000 := by
    have := countI_bound s ch
    unfold countI sI at this
    split at this
    · next h => rw [h, Int.ediv_eq_zero_of_lt (by omega) (by omega)]; omega
    · omega
  have E : Hid (countI s ch = if clampI 0 s 1000 = 0 then 1 else (clampI 0 s 1000 + clampI 1 ch 1000 - 1) / clampI 1 ch 1000) := rfl
  have EZ : Hid (clampI 0 s 1000 = 0 ↔ (clampI 0 s 1000 + clampI 1 ch 1000 - 1) / clampI 1 ch 1000 = 0) := by
    constructor
    · intro h; rw [h, Int.ediv_eq_zero_of_lt (by omega) (by omega)]
    · intro h
      rcases (by omega : clampI 0 s 1000 = 0 ∨ 1 ≤ clampI 0 s 1000) with h' | h'
      · exact h'
      · have := (Int.le_ediv_iff_mul_le (a := 1) (b := clampI 0 s 1000 + clampI 1 ch 1000 - 1) (c := clampI 1 ch 1000) (by omega)).2 (by omega)
        omega
  go_enter Try.func25, Try.ntmps25
  go_wp2_with fail
  refine (refclamp_any _ _ _ _ (by omega)).mono ?_; rintro e w' ⟨rfl, rfl⟩
  go_wp2_with fail
  refine (refclamp_any _ _ _ _ (by omega)).mono ?_; rintro e w' ⟨rfl, rfl⟩
  go_wp2_with fail
  all_goals go_ret
  · refine ⟨ret_int ?_, rfl⟩
    have hz : ((clampI 0 s 1000 + clampI 1 ch 1000 - 1) / clampI 1 ch 1000 == 0) = true := by assumption
    rw [E.out, if_pos (EZ.out.2 (by simpa using hz))]
  · refine ⟨ret_int ?_, rfl⟩
    rw [E.out, if_neg (fun h => by have := EZ.out.1 h; simp_all)]

/-- The class of each cell: the first k classes' cells. -/
def classesI (cs : List Int) (k : Nat) : List Int := (List.range k).flatMap fun (i : Nat) => List.replicate (cs[i]?.getD 0).toNat (i : Int)

theorem classesI_succ (cs : List Int) (k : Nat) : classesI cs (k + 1) = classesI cs k ++ List.replicate (cs[k]?.getD 0).toNat (k : Int) := by
  unfold classesI; rw [List.range_succ, List.flatMap_append]; simp

theorem roomsI_classes (cs : List Int) : ∀ k, roomsI cs k = (classesI cs k).map slotsI
  | 0 => rfl
  | k + 1 => by rw [roomsI_succ, classesI_succ, List.map_append, roomsI_classes cs k]; simp

theorem classesI_mem (cs : List Int) (k : Nat) : ∀ x ∈ classesI cs k, ∃ i : Nat, i < k ∧ x = i := by
  intro x hx
  unfold classesI at hx
  simp only [List.mem_flatMap, List.mem_range, List.mem_replicate] at hx
  obtain ⟨i, hi, _, rfl⟩ := hx
  exact ⟨i, hi, rfl⟩

theorem classesI_len (cs : List Int) (h : okCells cs) (k : Nat) (hk : k ≤ 5) : (classesI cs k).length ≤ 12 * k := by
  have := roomsI_len cs h k hk
  rw [roomsI_classes] at this; simpa using this

theorem classes_any (a b c d e : Int) (w : World) (hok : okCells [a, b, c, d, e]) :
    Calls Try.prog 29 #[.agg #[.int .i64 a, .int .i64 b, .int .i64 c, .int .i64 d, .int .i64 e]] w fun r w' =>
      ∃ v, r = .returned v ∧ w'.ownsRow w.heap.size 3 1 v (classesI [a, b, c, d, e] 5).length ((classesI [a, b, c, d, e] 5).map (Value.int .i64)) ∧ Kept w w' := by
  obtain ⟨i0, hi, hz0, hz1, hz2⟩ := info_parts info_int
  go_enter Try.func29, Try.ntmps29
  go_wp2_with fail
  have hbx : Blk (w.alloc (.cells #[.int .i64 a, .int .i64 b, .int .i64 c, .int .i64 d, .int .i64 e] 22)) w.heap.size 22 (([a, b, c, d, e] : List Int).map (Value.int .i64)) := Blk.new w _ _
  generalize hcs : ([a, b, c, d, e] : List Int) = cs at *
  go_loopw [3, 4] (fun v i wr => ∃ k : Nat, k ≤ 5 ∧ i = .int .i64 k ∧ wr.ownsRow (w.heap.size + 1) 3 1 v (classesI cs k).length ((classesI cs k).map (Value.int .i64)) ∧ Kept (w.alloc (.cells #[.int .i64 a, .int .i64 b, .int .i64 c, .int .i64 d, .int .i64 e] 22)) wr) (fun _ i _ => 5 - (intOf i).toNat)
  case atStart => exact ⟨0, by omega, rfl, World.ownsRow_nil _ _ _ _, Below.refl _ _⟩
  case round =>
    obtain ⟨k, hk, rfl, hown, hb⟩ := hrel
    by_cases hlti : (k : Int) < 5
    · have hlt : k < 5 := by omega
      have hrange := hok.2 k hlt
      obtain ⟨hr0, hr1⟩ := hrange
      have hlen := classesI_len cs hok k hk
      obtain ⟨m, hm⟩ : ∃ m : Nat, cs[k]?.getD 0 = m := ⟨(cs[k]?.getD 0).toNat, by omega⟩
      have HM : Hid (cs[k]?.getD 0 = m) := hm
      have hcell : ∀ W, Kept (w.alloc (.cells #[.int .i64 a, .int .i64 b, .int .i64 c, .int .i64 d, .int .i64 e] 22)) W → W.cell? ⟨w.heap.size, k, none⟩ = some (.int .i64 m) := fun W hW => by
        rw [(hW.blk hbx).cell k, ← hm]
        have : k < cs.length := by rw [hok.1]; omega
        simp [List.getElem?_eq_getElem this]
      have HC : Hid (∀ W, Kept (w.alloc (.cells #[.int .i64 a, .int .i64 b, .int .i64 c, .int .i64 d, .int .i64 e] 22)) W → W.cell? ⟨w.heap.size, k, none⟩ = some (.int .i64 m)) := hcell
      rw [hm] at hr0 hr1
      clear hm hcell
      go_wp2_with fail
      go_loopw [3, 5] (fun v j wx => ∃ q : Nat, q ≤ m ∧ j = .int .i64 q ∧ wx.ownsRow (w.heap.size + 1) 3 1 v ((classesI cs k).length + q) ((classesI cs k ++ List.replicate q (k : Int)).map (Value.int .i64)) ∧ Kept (w.alloc (.cells #[.int .i64 a, .int .i64 b, .int .i64 c, .int .i64 d, .int .i64 e] 22)) wx) (fun _ j _ => m - (intOf j).toNat)
      case atStart => exact ⟨0, by omega, rfl, by simpa using hown, hb⟩
      case round =>
        obtain ⟨q, hq, rfl, hown2, hb2⟩ := hrel
        have hcq := HC.out _ hb2
        by_cases hlt2 : (q : Int) < m
        · have hq12 : (q : Int) < 12 := by omega
          go_wp2_with (at_builtin; refine wpList_append_own _ rfl _ _ 38 rfl (w.heap.size + 1) 3 i0 (.int .i64 0) 1 8 Try.underlying38 hi hz0 hz1 hz2 rfl (by decide) _ _ _ rfl (hown2.alloc _) ⟨wr.heap.size, 0, none⟩ 1 1 [.int .i64 k] rfl rfl ?c1 ?c2 ?c3 ?c4 ?c5 ?_)
          case c1 => intro j u hj; match j, hj with | 0, hj => simp at hj; subst hj; simp [Addr.add]
          case c2 => intro u hu; simp at hu; subst hu; rfl
          case c3 => unfold maxLen; omega
          case c4 => omega
          case c5 => have := hb2.size; simp at this ⊢; omega
          intro v' w1 hown' hgrow _
          go_wp2
          go_roundw
          case rel =>
            refine ⟨q + 1, by omega, by go_num, ?_, ?_⟩
            · rw [List.replicate_succ', ← List.append_assoc, List.map_append]
              simpa [Nat.add_assoc] using hown'
            · exact (hb2.alloc (by have := hb2.size; omega) _).grown hgrow (by have := hb2.size; simp at this ⊢; omega) (fun g hg => by have := (ownsRow_base hown2 g hg).1; simpa using this)
          case measure => simp [intOf]; omega
        · obtain rfl : q = m := by omega
          go_wp2
          go_roundw
          case rel =>
            refine ⟨k + 1, by omega, by go_num, ?_, hb2⟩
            rw [classesI_succ, HM.out]; simpa using hown2
          case measure => simp [intOf]; omega
    · obtain rfl : k = 5 := by omega
      go_wp2_with fail
      go_ret
      refine ⟨_, rfl, ?_, ((Below.refl _ _).alloc (Nat.le_refl _) _).trans (hb.mono (by simp))⟩
      exact ownsRow_mono hown (Nat.le_succ _)

theorem rooms_ref (c : Cfg) (w : World) (hg : Good c) :
    Calls Try.prog 24 #[.agg #[.int .i64 c.c0, .int .i64 c.c1, .int .i64 c.c2, .int .i64 c.c3, .int .i64 c.c4, .int .i64 c.mks, .int .i64 c.mus, .int .i64 c.dq, .int .i64 c.ch, .int .i64 c.bu, .int .i64 c.ro, .int .i64 c.sw]] w fun r w' =>
      ∃ v, r = .returned v ∧ w'.ownsRow w.heap.size 3 1 v (roomsC c).length ((roomsC c).map (Value.int .i64)) ∧ Kept w w' := by
  obtain ⟨i0, hi, hz0, hz1, hz2⟩ := info_parts info_int
  have hok := good_cells hg
  have hcl := classesI_len _ hok 5 (by omega)
  have HR : Hid (roomsC c = (classesI (cellsL c) 5).map slotsI) := roomsI_classes _ 5
  have hmem := classesI_mem (cellsL c) 5
  go_enter Try.func24, Try.ntmps24
  go_wp2_with fail
  refine (classes_any _ _ _ _ _ _ hok).mono ?_; rintro e w1 ⟨v1, rfl, hown, hk1⟩
  have hkw : Kept w w1 := ((Below.refl _ _).alloc (Nat.le_refl _) _).trans (hk1.mono (by simp))
  have hsz := hk1.size
  rw [World.size_alloc] at hsz
  have hrow := Row.ofOwn hown
  change Row w1 v1 ((classesI (cellsL c) 5).map (Value.int .i64)) at hrow
  generalize classesI (cellsL c) 5 = l at *
  clear hok hown hk1 hg
  obtain ⟨ao, cap, rfl, hm, hc⟩ := hrow.ex
  rw [List.length_map] at *
  have H : Hid (∀ i, i < l.length → ∃ g, ao = some ⟨g, 0, none⟩ ∧ g < w1.heap.size ∧ w1.cell? ⟨g, i, none⟩ = some (.int .i64 (l[i]?.getD 0))) := fun i hi => by
    refine hc i _ ?_
    simp [List.getElem?_eq_getElem hi]
  clear hc hm hrow
  go_wp2_with fail
  go_loopw [3, 5] (fun v i wr => ∃ k : Nat, k ≤ l.length ∧ i = .int .i64 k ∧ wr.ownsRow w1.heap.size 3 1 v k (((l.take k).map slotsI).map (Value.int .i64)) ∧ Kept w1 wr) (fun _ i _ => l.length - (intOf i).toNat)
  case atStart => exact ⟨0, by omega, rfl, World.ownsRow_nil _ _ _ _, Below.refl _ _⟩
  case round =>
    obtain ⟨k, hk, rfl, hown, hb⟩ := hrel
    by_cases hlt : (k : Int) < l.length
    · obtain ⟨g, rfl, hg, hcell⟩ := H.out k (by omega)
      have hcell' : wr.cell? ⟨g, k, none⟩ = some (.int .i64 (l[k]?.getD 0)) := by rw [Below.cell hb hg]; exact hcell
      obtain ⟨j, hj, hx⟩ : ∃ j : Nat, j < 5 ∧ l[k]?.getD 0 = j := by
        have hkl : k < l.length := by omega
        obtain ⟨j, hj, he⟩ := hmem (l[k]'hkl) (List.getElem_mem _)
        exact ⟨j, hj, by rw [List.getElem?_eq_getElem hkl]; simpa using he⟩
      have S1 : Hid (((l.take (k + 1)).map slotsI).map (Value.int .i64) = ((l.take k).map slotsI).map (Value.int .i64) ++ [.int .i64 (slotsI j)]) := by
        unfold Hid
        rw [List.take_add_one, List.map_append, List.map_append]
        have hkl : k < l.length := by omega
        rw [List.getElem?_eq_getElem hkl] at hx ⊢
        simp at hx
        simp [hx]
      rw [hx] at hcell'
      clear hx hcell hmem
      go_wp2_with fail
      refine (refslots_any j hj _).mono ?_; rintro e w2 ⟨rfl, rfl⟩
      go_wp2_with (at_builtin; refine wpList_append_own _ rfl _ _ 38 rfl w1.heap.size 3 i0 (.int .i64 0) 1 8 Try.underlying38 hi hz0 hz1 hz2 rfl (by decide) _ _ _ rfl (hown.alloc _) ⟨wr.heap.size, 0, none⟩ 1 1 [.int .i64 (slotsI j)] rfl rfl ?c1 ?c2 ?c3 ?c4 ?c5 ?_)
      case c1 => intro j u hj; match j, hj with | 0, hj => simp at hj; subst hj; simp [Addr.add]
      case c2 => intro u hu; simp at hu; subst hu; rfl
      case c3 => unfold maxLen; omega
      case c4 => omega
      case c5 => have := hb.size; simp at this ⊢; omega
      intro v' w3 hown' hgrow _
      go_wp2
      go_roundw
      case rel =>
        refine ⟨k + 1, by omega, by go_num, by rw [S1.out]; simpa using hown', ?_⟩
        exact (hb.alloc (by have := hb.size; omega) _).grown hgrow (by have := hb.size; simp at this ⊢; omega) (fun g hg => (ownsRow_base hown g hg).1)
      case measure => simp [intOf]; omega
    · obtain rfl : k = l.length := by omega
      go_wp2_with fail
      go_ret
      refine ⟨_, rfl, ?_, hkw.trans' hb⟩
      rw [HR.out, List.length_map]
      have := ownsRow_mono hown hkw.size
      simpa using this

theorem reftasks_any (c : Cfg) (w : World) (hg : Good c) :
    Calls Try.prog 14 #[.agg #[.int .i64 c.c0, .int .i64 c.c1, .int .i64 c.c2, .int .i64 c.c3, .int .i64 c.c4, .int .i64 c.mks, .int .i64 c.mus, .int .i64 c.dq, .int .i64 c.ch, .int .i64 c.bu, .int .i64 c.ro, .int .i64 c.sw]] w fun r w' => r = .returned (.int .i64 (tasksI c)) ∧ Kept w w' := by
  have hlen := roomsC_len hg
  have ET : Hid (tasksI c = sumI ((roomsC c).map fun s => countI s c.ch)) := rfl
  have CR : Hid (∀ W, Calls Try.prog 24 #[.agg #[.int .i64 c.c0, .int .i64 c.c1, .int .i64 c.c2, .int .i64 c.c3, .int .i64 c.c4, .int .i64 c.mks, .int .i64 c.mus, .int .i64 c.dq, .int .i64 c.ch, .int .i64 c.bu, .int .i64 c.ro, .int .i64 c.sw]] W fun r w' =>
      ∃ v, r = .returned v ∧ w'.ownsRow W.heap.size 3 1 v (roomsC c).length ((roomsC c).map (Value.int .i64)) ∧ Kept W w') := fun W => rooms_ref c W hg
  clear hg
  go_enter Try.func14, Try.ntmps14
  go_wp2_with fail
  refine (CR.out _).mono ?_; rintro e w1 ⟨v1, rfl, hown, hk1⟩
  have hbc : Blk w1 w.heap.size 28 [.int .i64 c.c0, .int .i64 c.c1, .int .i64 c.c2, .int .i64 c.c3, .int .i64 c.c4, .int .i64 c.mks, .int .i64 c.mus, .int .i64 c.dq, .int .i64 c.ch, .int .i64 c.bu, .int .i64 c.ro, .int .i64 c.sw] := hk1.blk (Blk.new w _ _)
  have hkw : Kept w w1 := ((Below.refl _ _).alloc (Nat.le_refl _) _).trans (hk1.mono (by simp))
  have hrow := Row.ofOwn hown
  have hbl := hbc.lt
  generalize hl : roomsC c = l at *
  clear hl hown hk1 CR
  obtain ⟨ao, cap, rfl, hm, hc⟩ := hrow.ex
  rw [List.length_map] at *
  have H : Hid (∀ i, i < l.length → ∃ g, ao = some ⟨g, 0, none⟩ ∧ g < w1.heap.size ∧ w1.cell? ⟨g, i, none⟩ = some (.int .i64 (l[i]?.getD 0))) := fun i hi => by
    refine hc i _ ?_
    simp [List.getElem?_eq_getElem hi]
  have c8 := hbc.cell 8
  clear hc hm hrow hbc
  go_wp2_with fail
  go_loopw [3, 5] (fun t i wr => ∃ k : Nat, k ≤ l.length ∧ i = .int .i64 k ∧ t = .int .i64 (sumI ((l.map fun s => countI s c.ch).take k)) ∧ Kept w1 wr) (fun _ i _ => l.length - (intOf i).toNat)
  case atStart => exact ⟨0, by omega, rfl, rfl, Below.refl _ _⟩
  case round =>
    obtain ⟨k, hk, rfl, rfl, hkr⟩ := hrel
    by_cases hlt : (k : Int) < l.length
    · obtain ⟨g, rfl, hg, hcell⟩ := H.out k (by omega)
      have hcell' : wr.cell? ⟨g, k, none⟩ = some (.int .i64 (l[k]?.getD 0)) := by rw [Below.cell hkr hg]; exact hcell
      have c8' : wr.cell? ⟨w.heap.size, 8, none⟩ = some (.int .i64 c.ch) := by rw [Below.cell hkr hbl]; exact c8
      have hb := sumI_bound ((l.map fun s => countI s c.ch).take k) 1000 (fun x hx => by
        have := List.mem_of_mem_take hx
        simp only [List.mem_map] at this
        obtain ⟨s, _, rfl⟩ := this
        have := countI_bound s c.ch
        omega)
      have hb2 : ((l.map fun s => countI s c.ch).take k).length ≤ 60 := by simp; omega
      obtain ⟨hb0, hb1⟩ := hb
      have hb3 : sumI ((l.map fun s => countI s c.ch).take k) ≤ 60000 := by omega
      have hcb := countI_bound (l[k]?.getD 0) c.ch
      obtain ⟨hcb0, hcb1⟩ := hcb
      have S1 : Hid (sumI ((l.map fun s => countI s c.ch).take (k + 1)) = sumI ((l.map fun s => countI s c.ch).take k) + countI (l[k]?.getD 0) c.ch) := by
        unfold Hid
        rw [sumI_take_succ _ _ (by simp; omega)]
        simp [List.getElem?_eq_getElem (show k < l.length by omega)]
      have hk0 : (0 : Int) ≤ k := by omega
      clear hcell hb1 hb2
      generalize hT : (l.map fun s => countI s c.ch) = T at *
      generalize sumI (T.take k) = tk at *
      generalize l[k]?.getD 0 = x at *
      go_wp2_with fail
      go_region_held3 (fun w' => w'.cell? ⟨g, k, none⟩ = some (.int .i64 x) ∧ w'.cell? ⟨w.heap.size, 8, none⟩ = some (.int .i64 c.ch))
        (first | exact ⟨hcell', c8'⟩)
        (first | (go_at_call 25; refine (refcount_any _ _ _).mono ?_; rintro e w2 ⟨rfl, rfl⟩))
      go_wp2_with fail
      refine ⟨⟨k + 1, by omega, by go_num, ?_, hkr.drew⟩, by simp [intOf]; omega⟩
      rw [S1.out, IntWalk.i64_in _ (by omega)]
    · obtain rfl : k = l.length := by omega
      go_wp2_with fail
      go_ret
      exact ⟨ret_int (by rw [ET.out, List.take_of_length_le (by simp)]), hkw.trans' hkr⟩

end Go.Proofs.Ytfamlfemdegmpaa
