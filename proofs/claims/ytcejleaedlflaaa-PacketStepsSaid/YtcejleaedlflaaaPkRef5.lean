/- The document's configuration: classes, rooms, packets: walked. -/
import Derived.Test.YtcejleaedlflaaaPkRefP
import Derived.Test.YtcejleaedlflaaaPkNew
import Derived.Deep.QuietTactic
import Derived.BigQuiet
namespace Go.Proofs.Ytcejleaedlflaaa
open Go.RowKit

theorem slotsI_succ {j : Nat} (h : j < 4) : slotsI ((j + 1 : Nat) : Int) = slotsI j * 2 := by
  have : j = 0 ∨ j = 1 ∨ j = 2 ∨ j = 3 := by omega
  rcases this with rfl | rfl | rfl | rfl <;> rfl

theorem refslots_any (k : Nat) (hk : k < 5) (w : World) :
    Calls Try.prog 88 #[.int .i64 k] w fun e w' => e = .returned (.int .i64 (slotsI k)) ∧ w = w' := by
  go_enter Try.func88, Try.ntmps88
  go_wp2_with fail
  go_loop [3, 4] (fun n i => ∃ j : Nat, j ≤ k ∧ i = .int .i64 j ∧ n = .int .i64 (slotsI j)) (fun _ i => k - (intOf i).toNat)
  case atStart => exact ⟨0, by omega, rfl, rfl⟩
  case round =>
    obtain ⟨j, hj, rfl, rfl⟩ := hrel
    by_cases hlt : (j : Int) < k
    · have hb := slotsI_bound j
      obtain ⟨hb0, hb1⟩ := hb
      have S1 : Hid (slotsI ((j + 1 : Nat) : Int) = slotsI j * 2) := slotsI_succ (by omega)
      generalize slotsI j = x at *
      go_wp2_with fail
      refine ⟨⟨j + 1, by omega, by go_num, by rw [S1.out]⟩, by simp [intOf]; omega⟩
    · obtain rfl : j = k := by omega
      go_wp2_with fail
      go_ret
      exact ⟨rfl, rfl⟩

def okCells (cs : List Int) : Prop := cs.length = 5 ∧ ∀ k, k < 5 → 0 ≤ cs[k]?.getD 0 ∧ cs[k]?.getD 0 ≤ 12

/-- The class of each cell: the first k classes' cells. -/
def classesI (cs : List Int) (k : Nat) : List Int := (List.range k).flatMap fun (i : Nat) => List.replicate (cs[i]?.getD 0).toNat (i : Int)

theorem classesI_succ (cs : List Int) (k : Nat) : classesI cs (k + 1) = classesI cs k ++ List.replicate (cs[k]?.getD 0).toNat (k : Int) := by
  unfold classesI; rw [List.range_succ, List.flatMap_append]; simp

theorem classesI_mem (cs : List Int) (k : Nat) : ∀ x ∈ classesI cs k, ∃ i : Nat, i < k ∧ x = i := by
  intro x hx
  unfold classesI at hx
  simp only [List.mem_flatMap, List.mem_range, List.mem_replicate] at hx
  obtain ⟨i, hi, _, rfl⟩ := hx
  exact ⟨i, hi, rfl⟩

theorem classesI_len (cs : List Int) (h : okCells cs) : ∀ k, k ≤ 5 → (classesI cs k).length ≤ 12 * k
  | 0, _ => by simp [classesI]
  | k + 1, hk => by
    have := classesI_len cs h k (by omega)
    have := h.2 k (by omega)
    rw [classesI_succ]; simp; omega

theorem classes_any (a b c d e : Int) (w : World) (hok : okCells [a, b, c, d, e]) :
    Calls Try.prog 87 #[.agg #[.int .i64 a, .int .i64 b, .int .i64 c, .int .i64 d, .int .i64 e]] w fun r w' =>
      ∃ v, r = .returned v ∧ w'.ownsRow w.heap.size 3 1 v (classesI [a, b, c, d, e] 5).length ((classesI [a, b, c, d, e] 5).map (Value.int .i64)) ∧ Kept w w' := by
  obtain ⟨i0, hi, hz0, hz1, hz2⟩ := info_parts info_int
  go_enter Try.func87, Try.ntmps87
  go_wp2_with fail
  have hbx : Blk (w.alloc (.cells #[.int .i64 a, .int .i64 b, .int .i64 c, .int .i64 d, .int .i64 e] 22)) w.heap.size 22 (([a, b, c, d, e] : List Int).map (Value.int .i64)) := Blk.new w _ _
  generalize hcs : ([a, b, c, d, e] : List Int) = cs at *
  go_loopw [3, 4] (fun v i wr => ∃ k : Nat, k ≤ 5 ∧ i = .int .i64 k ∧ wr.ownsRow (w.heap.size + 1) 3 1 v (classesI cs k).length ((classesI cs k).map (Value.int .i64)) ∧ Kept (w.alloc (.cells #[.int .i64 a, .int .i64 b, .int .i64 c, .int .i64 d, .int .i64 e] 22)) wr) (fun _ i _ => 5 - (intOf i).toNat)
  case atStart => exact ⟨0, by omega, rfl, World.ownsRow_nil _ _ _ _, Below.refl _ _⟩
  case round =>
    obtain ⟨k, hk, rfl, hown, hb⟩ := hrel
    by_cases hlti : (k : Int) < 5
    · have hlt : k < 5 := by omega
      have hrange := hok.2 k hlt
      obtain ⟨hr0, hr1⟩ := hrange
      have hlen := classesI_len cs hok k hk
      obtain ⟨m, hm⟩ : ∃ m : Nat, cs[k]?.getD 0 = m := ⟨(cs[k]?.getD 0).toNat, by omega⟩
      have HM : Hid (cs[k]?.getD 0 = m) := hm
      have hcell : ∀ W, Kept (w.alloc (.cells #[.int .i64 a, .int .i64 b, .int .i64 c, .int .i64 d, .int .i64 e] 22)) W → W.cell? ⟨w.heap.size, k, none⟩ = some (.int .i64 m) := fun W hW => by
        rw [(hW.blk hbx).cell k, ← hm]
        have : k < cs.length := by rw [hok.1]; omega
        simp [List.getElem?_eq_getElem this]
      have HC : Hid (∀ W, Kept (w.alloc (.cells #[.int .i64 a, .int .i64 b, .int .i64 c, .int .i64 d, .int .i64 e] 22)) W → W.cell? ⟨w.heap.size, k, none⟩ = some (.int .i64 m)) := hcell
      rw [hm] at hr0 hr1
      clear hm hcell
      go_wp2_with fail
      go_loopw [3, 5] (fun v j wx => ∃ q : Nat, q ≤ m ∧ j = .int .i64 q ∧ wx.ownsRow (w.heap.size + 1) 3 1 v ((classesI cs k).length + q) ((classesI cs k ++ List.replicate q (k : Int)).map (Value.int .i64)) ∧ Kept (w.alloc (.cells #[.int .i64 a, .int .i64 b, .int .i64 c, .int .i64 d, .int .i64 e] 22)) wx) (fun _ j _ => m - (intOf j).toNat)
      case atStart => exact ⟨0, by omega, rfl, by simpa using hown, hb⟩
      case round =>
        obtain ⟨q, hq, rfl, hown2, hb2⟩ := hrel
        have hcq := HC.out _ hb2
        by_cases hlt2 : (q : Int) < m
        · have hq12 : (q : Int) < 12 := by omega
          go_wp2_with (at_builtin; refine wpList_append_own _ rfl _ _ 53 rfl (w.heap.size + 1) 3 i0 (.int .i64 0) 1 8 Try.underlying53 hi hz0 hz1 hz2 rfl (by decide) _ _ _ rfl (hown2.alloc _) ⟨wr.heap.size, 0, none⟩ 1 1 [.int .i64 k] rfl rfl ?c1 ?c2 ?c3 ?c4 ?c5 ?_)
          case c1 => intro j u hj; match j, hj with | 0, hj => simp at hj; subst hj; simp [Addr.add]
          case c2 => intro u hu; simp at hu; subst hu; rfl
          case c3 => unfold maxLen; omega
          case c4 => omega
          case c5 => have := hb2.size; simp at this ⊢; omega
          intro v' w1 hown' hgrow _
          go_wp2
          go_roundw
          case rel =>
            refine ⟨q + 1, by omega, by go_num, ?_, ?_⟩
            · rw [List.replicate_succ', ← List.append_assoc, List.map_append]
              simpa [Nat.add_assoc] using hown'
            · exact (hb2.alloc (by have := hb2.size; omega) _).grown hgrow (by have := hb2.size; simp at this ⊢; omega) (fun g hg => by have := (ownsRow_base hown2 g hg).1; simpa using this)
          case measure => simp [intOf]; omega
        · obtain rfl : q = m := by omega
          go_wp2
          go_roundw
          case rel =>
            refine ⟨k + 1, by omega, by go_num, ?_, hb2⟩
            rw [classesI_succ, HM.out]; simpa using hown2
          case measure => simp [intOf]; omega
    · obtain rfl : k = 5 := by omega
      go_wp2_with fail
      go_ret
      refine ⟨_, rfl, ?_, ((Below.refl _ _).alloc (Nat.le_refl _) _).trans (hb.mono (by simp))⟩
      exact ownsRow_mono hown (Nat.le_succ _)

def cellsL (c : Cfg) : List Int := [c.c0, c.c1, c.c2, c.c3, c.c4]

theorem good_cells {c : Cfg} (h : Good c) : okCells (cellsL c) := by
  obtain ⟨h0, h1, h2, h3, h4, _⟩ := h
  refine ⟨rfl, fun k hk => ?_⟩
  have : k = 0 ∨ k = 1 ∨ k = 2 ∨ k = 3 ∨ k = 4 := by omega
  rcases this with rfl | rfl | rfl | rfl | rfl
  · exact h0
  · exact h1
  · exact h2
  · exact h3
  · exact h4

theorem classes_is (c : Cfg) : classesI (cellsL c) 5 = clsL c := by
  simp [classesI, clsL, cellsL, List.range_succ]

theorem rooms_ref (c : Cfg) (w : World) (hg : Good c) :
    Calls Try.prog 81 #[.agg #[.int .i64 c.c0, .int .i64 c.c1, .int .i64 c.c2, .int .i64 c.c3, .int .i64 c.c4, .int .i64 c.mks, .int .i64 c.mus, .int .i64 c.dq, .int .i64 c.ch, .int .i64 c.bu, .int .i64 c.ro, .int .i64 c.sw]] w fun r w' =>
      ∃ v, r = .returned v ∧ w'.ownsRow w.heap.size 3 1 v (rooms c).length ((rooms c).map (Value.int .i64)) ∧ Kept w w' := by
  obtain ⟨i0, hi, hz0, hz1, hz2⟩ := info_parts info_int
  have hok := good_cells hg
  have hcl := classesI_len _ hok 5 (by omega)
  have HR : Hid (rooms c = (classesI (cellsL c) 5).map slotsI) := by show rooms c = _; rw [classes_is]; rfl
  have hmem := classesI_mem (cellsL c) 5
  go_enter Try.func81, Try.ntmps81
  go_wp2_with fail
  refine (classes_any _ _ _ _ _ _ hok).mono ?_; rintro e w1 ⟨v1, rfl, hown, hk1⟩
  have hkw : Kept w w1 := ((Below.refl _ _).alloc (Nat.le_refl _) _).trans (hk1.mono (by simp))
  have hsz := hk1.size
  rw [World.size_alloc] at hsz
  have hrow := Row.ofOwn hown
  change Row w1 v1 ((classesI (cellsL c) 5).map (Value.int .i64)) at hrow
  generalize classesI (cellsL c) 5 = l at *
  clear hok hown hk1 hg
  obtain ⟨ao, cap, rfl, hm, hc⟩ := hrow.ex
  rw [List.length_map] at *
  have H : Hid (∀ i, i < l.length → ∃ g, ao = some ⟨g, 0, none⟩ ∧ g < w1.heap.size ∧ w1.cell? ⟨g, i, none⟩ = some (.int .i64 (l[i]?.getD 0))) := fun i hi => by
    refine hc i _ ?_
    simp [List.getElem?_eq_getElem hi]
  clear hc hm hrow
  go_wp2_with fail
  go_loopw [3, 5] (fun v i wr => ∃ k : Nat, k ≤ l.length ∧ i = .int .i64 k ∧ wr.ownsRow w1.heap.size 3 1 v k (((l.take k).map slotsI).map (Value.int .i64)) ∧ Kept w1 wr) (fun _ i _ => l.length - (intOf i).toNat)
  case atStart => exact ⟨0, by omega, rfl, World.ownsRow_nil _ _ _ _, Below.refl _ _⟩
  case round =>
    obtain ⟨k, hk, rfl, hown, hb⟩ := hrel
    by_cases hlt : (k : Int) < l.length
    · obtain ⟨g, rfl, hg, hcell⟩ := H.out k (by omega)
      have hcell' : wr.cell? ⟨g, k, none⟩ = some (.int .i64 (l[k]?.getD 0)) := by rw [Below.cell hb hg]; exact hcell
      obtain ⟨j, hj, hx⟩ : ∃ j : Nat, j < 5 ∧ l[k]?.getD 0 = j := by
        have hkl : k < l.length := by omega
        obtain ⟨j, hj, he⟩ := hmem (l[k]'hkl) (List.getElem_mem _)
        exact ⟨j, hj, by rw [List.getElem?_eq_getElem hkl]; simpa using he⟩
      have S1 : Hid (((l.take (k + 1)).map slotsI).map (Value.int .i64) = ((l.take k).map slotsI).map (Value.int .i64) ++ [.int .i64 (slotsI j)]) := by
        unfold Hid
        rw [List.take_add_one, List.map_append, List.map_append]
        have hkl : k < l.length := by omega
        rw [List.getElem?_eq_getElem hkl] at hx ⊢
        simp at hx
        simp [hx]
      rw [hx] at hcell'
      clear hx hcell hmem
      go_wp2_with fail
      refine (refslots_any j hj _).mono ?_; rintro e w2 ⟨rfl, rfl⟩
      go_wp2_with (at_builtin; refine wpList_append_own _ rfl _ _ 53 rfl w1.heap.size 3 i0 (.int .i64 0) 1 8 Try.underlying53 hi hz0 hz1 hz2 rfl (by decide) _ _ _ rfl (hown.alloc _) ⟨wr.heap.size, 0, none⟩ 1 1 [.int .i64 (slotsI j)] rfl rfl ?c1 ?c2 ?c3 ?c4 ?c5 ?_)
      case c1 => intro j u hj; match j, hj with | 0, hj => simp at hj; subst hj; simp [Addr.add]
      case c2 => intro u hu; simp at hu; subst hu; rfl
      case c3 => unfold maxLen; omega
      case c4 => omega
      case c5 => have := hb.size; simp at this ⊢; omega
      intro v' w3 hown' hgrow _
      go_wp2
      go_roundw
      case rel =>
        refine ⟨k + 1, by omega, by go_num, by rw [S1.out]; simpa using hown', ?_⟩
        exact (hb.alloc (by have := hb.size; omega) _).grown hgrow (by have := hb.size; simp at this ⊢; omega) (fun g hg => (ownsRow_base hown g hg).1)
      case measure => simp [intOf]; omega
    · obtain rfl : k = l.length := by omega
      go_wp2_with fail
      go_ret
      refine ⟨_, rfl, ?_, hkw.trans' hb⟩
      rw [HR.out, List.length_map]
      have := ownsRow_mono hown hkw.size
      simpa using this

/-- A number of a row that is owned. -/
theorem row_nums {w : World} {base : Nat} {v : Value} {n : Nat} {xs : List Int} (h : w.ownsRow base 3 1 v n (xs.map (Value.int .i64))) : ∃ ao cap, v = .slice ao xs.length cap ∧ ∀ i, i < xs.length → ∃ g, ao = some ⟨g, 0, none⟩ ∧ g < w.heap.size ∧ w.cell? ⟨g, i, none⟩ = some (.int .i64 (xs[i]?.getD 0)) := by
  obtain ⟨ao, cap, rfl, _, hc⟩ := (Row.ofOwn h).ex
  refine ⟨ao, cap, by rw [List.length_map], fun i hi => ?_⟩
  obtain ⟨g, e, hl, h⟩ := hc i (.int .i64 (xs[i]'hi)) (by simp [List.getElem?_eq_getElem hi])
  exact ⟨g, e, hl, by rw [h, List.getElem?_eq_getElem hi]; rfl⟩

set_option maxRecDepth 8000 in
set_option maxHeartbeats 1600000 in
theorem packets_ref (c : Cfg) (w : World) (hg : Good c) :
    Calls Try.prog 60 #[.agg #[.int .i64 c.c0, .int .i64 c.c1, .int .i64 c.c2, .int .i64 c.c3, .int .i64 c.c4, .int .i64 c.mks, .int .i64 c.mus, .int .i64 c.dq, .int .i64 c.ch, .int .i64 c.bu, .int .i64 c.ro, .int .i64 c.sw]] w fun r w' => r = .returned (.int .i64 (manyI c)) ∧ Kept w w' := by
  have Hg : Hid (Good c) := hg
  have hb := Blk.new w 50 [.int .i64 c.c0, .int .i64 c.c1, .int .i64 c.c2, .int .i64 c.c3, .int .i64 c.c4, .int .i64 c.mks, .int .i64 c.mus, .int .i64 c.dq, .int .i64 c.ch, .int .i64 c.bu, .int .i64 c.ro, .int .i64 c.sw]
  have hk0 : Kept w (w.alloc (.cells ([.int .i64 c.c0, .int .i64 c.c1, .int .i64 c.c2, .int .i64 c.c3, .int .i64 c.c4, .int .i64 c.mks, .int .i64 c.mus, .int .i64 c.dq, .int .i64 c.ch, .int .i64 c.bu, .int .i64 c.ro, .int .i64 c.sw] : List Value).toArray 50)) := (Below.refl _ _).alloc (Nat.le_refl _) _
  have hn := nN_bound hg
  obtain ⟨hn0, hn1⟩ := hn
  obtain ⟨_, _, _, _, _, ⟨hm0, hm1⟩, ⟨hu0, hu1⟩, ⟨hd0, hd1⟩, ⟨hc0, hc1⟩, _⟩ := hg
  have c5 := hb.cell 5
  have c6 := hb.cell 6
  have c8 := hb.cell 8
  simp only [List.getElem?_cons_zero, List.getElem?_cons_succ] at c5 c6 c8
  go_enter Try.func60, Try.ntmps60
  go_wp2_with fail
  refine (rooms_ref c _ Hg.out).mono ?_; rintro e w2 ⟨v2, rfl, hown, hk2⟩
  have hb2 := hk2.blk hb
  have hK2 : Kept w w2 := hk0.trans' hk2
  obtain ⟨ao, cap, rfl, hcells⟩ := row_nums hown
  rw [show (rooms c).length = nN c from rfl] at hcells ⊢
  have HC : Hid (∀ i, i < nN c → ∃ g, ao = some ⟨g, 0, none⟩ ∧ g < w2.heap.size ∧ w2.cell? ⟨g, i, none⟩ = some (.int .i64 ((rooms c)[i]?.getD 0))) := hcells
  clear hcells hown hk2 hb hk0 c5 c6 c8
  have c5 := hb2.cell 5
  have c6 := hb2.cell 6
  have c8 := hb2.cell 8
  simp only [List.getElem?_cons_zero, List.getElem?_cons_succ] at c5 c6 c8
  have y0 : IntKind.i64.wrap (2 * c.mks) = 2 * c.mks := IntWalk.i64_in _ (by omega)
  have y1 : IntKind.i64.wrap ((nN c : Int) + 2 * c.mks) = nN c + 2 * c.mks := IntWalk.i64_in _ (by omega)
  have y2 : IntKind.i64.wrap ((nN c : Int) + 2 * c.mks + c.mus) = nN c + 2 * c.mks + c.mus := IntWalk.i64_in _ (by omega)
  have hm0' : manyTo c 0 = nN c + 2 * c.mks + c.mus := by unfold manyTo; simp [sumI]
  go_wp2_with fail
  rw [← hm0']
  clear hm0' y0 y1 y2 c5 c6
  go_loopw [4, 5] (fun n i wr => ∃ k : Nat, k ≤ nN c ∧ i = .int .i64 k ∧ n = .int .i64 (manyTo c k) ∧ ∃ m, wr = w2.drewN m) (fun _ i _ => nN c - (intOf i).toNat)
  case atStart => exact ⟨0, by omega, rfl, rfl, 0, rfl⟩
  case round =>
    obtain ⟨k, hk, rfl, rfl, m, rfl⟩ := hrel
    by_cases hlt : (k : Int) < nN c
    · have hlt' : k < nN c := by omega
      obtain ⟨g, rfl, hgl, hcell⟩ := HC.out k hlt'
      obtain ⟨r, hr⟩ : ∃ r, r = (rooms c)[k]?.getD 0 := ⟨_, rfl⟩
      have hrb := rooms_get hlt'
      rw [← hr] at hcell hrb
      obtain ⟨hrb0, hrb1⟩ := hrb
      have HM : Hid (manyTo c k + (r + c.ch - 1) / c.ch = manyTo c (k + 1)) := by unfold Hid; rw [manyTo_succ hlt', ← hr]
      have hmb := manyTo_bound Hg.out k
      obtain ⟨hmb0, hmb1⟩ := hmb
      generalize manyTo c k = M at *
      clear hr
      have y1 : IntKind.i64.wrap (r + c.ch) = r + c.ch := IntWalk.i64_in _ (by omega)
      have y2 : IntKind.i64.wrap (r + c.ch - 1) = r + c.ch - 1 := IntWalk.i64_in _ (by omega)
      have y0 : ¬ c.ch = 0 := by omega
      have yd : (r + c.ch - 1).tdiv c.ch = (r + c.ch - 1) / c.ch := Int.tdiv_eq_ediv_of_nonneg (by omega)
      have yb : 0 ≤ (r + c.ch - 1) / c.ch ∧ (r + c.ch - 1) / c.ch ≤ 40 := by
        refine ⟨Int.ediv_nonneg (by omega) (by omega), ?_⟩
        have : (r + c.ch - 1) / c.ch < 41 := by
          rw [Int.ediv_lt_iff_lt_mul (by omega)]; omega
        omega
      obtain ⟨yb0, yb1⟩ := yb
      have y3 : IntKind.i64.wrap ((r + c.ch - 1) / c.ch) = (r + c.ch - 1) / c.ch := IntWalk.i64_in _ (by omega)
      have y4 : IntKind.i64.wrap (M + (r + c.ch - 1) / c.ch) = M + (r + c.ch - 1) / c.ch := IntWalk.i64_in _ (by omega)
      go_wp2_with fail
      go_quiet (fail)
      go_wp2_with fail
      go_roundw
      case rel => exact ⟨k + 1, by omega, by go_num, by rw [HM.out], _, rfl⟩
      case measure => simp [intOf]; omega
    · obtain rfl : k = nN c := by omega
      have hMk : manyTo c (nN c) = manyI c := by unfold manyTo manyI; rw [List.take_of_length_le (by simp [nN])]
      rw [hMk]
      go_wp2_with fail
      go_ret
      exact ⟨rfl, below_drewN hK2 m⟩

end Go.Proofs.Ytcejleaedlflaaa
