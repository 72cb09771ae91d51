/- Where a thing stands in the document's map: walked. -/
import Derived.Test.YtcejleaedlflaaaPkRef5b
import Derived.Laws.StructEq
import Derived.Test.YtcejleaedlflaaaPkRegion
namespace Go.Proofs.Ytcejleaedlflaaa
open Go.RowKit

/-- Are two things the same? -/
theorem T_eq (a b d a' b' d' : Int) (W : World) : (binOp .eql 118 (.agg #[.int .i64 a, .int .i64 b, .int .i64 d]) (.agg #[.int .i64 a', .int .i64 b', .int .i64 d'])).run Try.prog W = .ok (.bool (decide ((⟨a, b, d⟩ : T3) = ⟨a', b', d'⟩))) W := by
  have u3 := Try.underlying3
  have a3 := Try.isAgg3
  have z3 := Try.sizeOf3
  have hS : Try.prog.underlying 118 = some (.struct (Try.prog.fieldsOf 118)) := by kernel_rfl
  have hp : Try.prog.stoodInHeld 118 = false := by kernel_rfl
  rw [run_eql_struct, show (10000 : Nat) = 9999 + 1 from rfl, run_equalIn_agg W 9999 118 _ _ hS hp]
  simp only [Program.fieldsOf, Try.underlying118]
  go_simp
  by_cases h1 : a = a' <;> by_cases h2 : b = b' <;> by_cases h3 : d = d' <;> simp [h1, h2, h3]

/-- Things that can be read. -/
structure RowT (w : World) (v : Value) (L : List T3) : Prop where
  ex : ∃ ao cap, v = .slice ao L.length cap ∧ L.length ≤ maxLen ∧ ∀ i t, L[i]? = some t → ∃ g, ao = some ⟨g, 0, none⟩ ∧ g < w.heap.size ∧ w.cell? ⟨g, i * 3, none⟩ = some (.int .i64 t.k) ∧ w.cell? ⟨g, i * 3 + 1, none⟩ = some (.int .i64 t.a) ∧ w.cell? ⟨g, i * 3 + 2, none⟩ = some (.int .i64 t.b)

theorem RowT.ofOwn {w : World} {base : Nat} {v : Value} {L : List T3} (h : OwnT w base v L) : RowT w v L := by
  rcases h.2 with ⟨rfl, h0⟩ | ⟨g, cap, cur, rfl, hb, hh, h1, h2, h3, h4⟩
  · exact ⟨none, 0, by rw [h0], by omega, fun i t hi => by
      have : L = [] := List.length_eq_zero_iff.1 h0
      subst this
      simp at hi⟩
  · refine ⟨some ⟨g, 0, none⟩, cap, rfl, by omega, fun i t hi => ?_⟩
    obtain ⟨f0, f1, f2⟩ := flatT_get L i t hi
    rw [Nat.mul_comm] at f0 f1 f2
    have hget : ∀ j u, (flatT L)[j]? = some u → w.cell? ⟨g, j, none⟩ = some u := fun j u hu => by
      rw [cell_of_row w g j _ _ _ hh]
      rw [← h4, List.getElem?_take] at hu
      split at hu
      · rw [← Array.getElem?_toList]; exact hu
      · cases hu
    exact ⟨g, rfl, lt_of_block hh, hget _ _ f0, hget _ _ f1, hget _ _ f2⟩

theorem RowT.kept {w w' : World} {v : Value} {L : List T3} (h : RowT w v L) (k : Kept w w') : RowT w' v L := by
  obtain ⟨ao, cap, hv, hm, hc⟩ := h.ex
  refine ⟨ao, cap, hv, hm, fun i t hi => ?_⟩
  obtain ⟨g, hg, hl, h0, h1, h2⟩ := hc i t hi
  exact ⟨g, hg, Nat.lt_of_lt_of_le hl k.size, by rw [Below.cell k hl]; exact h0, by rw [Below.cell k hl]; exact h1, by rw [Below.cell k hl]; exact h2⟩

theorem RowT.chg {w w' : World} {v : Value} {L : List T3} {S : Nat → Prop} (h : RowT w v L) (k : Chg S w w') (hn : ∀ g, v.ownBlock = some g → ¬ S g) : RowT w' v L := by
  obtain ⟨ao, cap, rfl, hm, hc⟩ := h.ex
  refine ⟨ao, cap, rfl, hm, fun i t hi => ?_⟩
  obtain ⟨g, rfl, hl, h0, h1, h2⟩ := hc i t hi
  have hx := fun j => cell_of_heap (i := j) (k.block g hl (hn g rfl))
  exact ⟨g, rfl, Nat.lt_of_lt_of_le hl k.size, by rw [hx]; exact h0, by rw [hx]; exact h1, by rw [hx]; exact h2⟩

set_option maxRecDepth 8000 in
set_option maxHeartbeats 1600000 in
theorem place_ref {v : Value} {L : List T3} (t : T3) (w : World) (h : RowT w v L) :
    Calls Try.prog 80 #[v, .agg #[.int .i64 t.k, .int .i64 t.a, .int .i64 t.b]] w fun e w' => e = .returned (.int .i64 (idxT L t 0)) ∧ Kept w w' := by
  have hb1 := Blk.new w 118 [.int .i64 t.k, .int .i64 t.a, .int .i64 t.b]
  have hk0 : Kept w (w.alloc (.cells ([.int .i64 t.k, .int .i64 t.a, .int .i64 t.b] : List Value).toArray 118)) := (Below.refl _ _).alloc (Nat.le_refl _) _
  have h1 := h.kept hk0
  go_enter Try.func80, Try.ntmps80
  go_wp2_with fail
  generalize w.alloc (.cells ([.int .i64 t.k, .int .i64 t.a, .int .i64 t.b] : List Value).toArray 118) = w1 at *
  have p0 := hb1.cell 0
  have p1 := hb1.cell 1
  have p2 := hb1.cell 2
  simp only [List.getElem?_cons_zero, List.getElem?_cons_succ] at p0 p1 p2
  obtain ⟨ao, cap, rfl, hm, hc⟩ := h1.ex
  have hmx : (L.length : Int) ≤ 9223372036854775807 := by unfold maxLen at hm; omega
  have HC : Hid (∀ i u, L[i]? = some u → ∃ g, ao = some ⟨g, 0, none⟩ ∧ g < w1.heap.size ∧ w1.cell? ⟨g, i * 3, none⟩ = some (.int .i64 u.k) ∧ w1.cell? ⟨g, i * 3 + 1, none⟩ = some (.int .i64 u.a) ∧ w1.cell? ⟨g, i * 3 + 2, none⟩ = some (.int .i64 u.b)) := hc
  clear hc h1 h hb1
  go_loopw [5] (fun i wr => ∃ k : Nat, k ≤ L.length ∧ i = .int .i64 k ∧ idxT (L.drop k) t k = idxT L t 0 ∧ ∃ m, wr = w1.drewN m) (fun i _ => L.length - (intOf i).toNat)
  case atStart => exact ⟨0, by omega, rfl, by simp, 0, rfl⟩
  case round =>
    obtain ⟨k, hk, rfl, hix, m, rfl⟩ := hrel
    by_cases hlt : (k : Int) < L.length
    · have hlt' : k < L.length := by omega
      have hkz : (0 : Int) ≤ k := by omega
      obtain ⟨g, rfl, hg, c0, c1, c2⟩ := HC.out k _ (List.getElem?_eq_getElem hlt')
      rw [List.drop_eq_getElem_cons hlt', idxT] at hix
      generalize L[k] = u at *
      by_cases hut : u = t
      · rw [if_pos hut] at hix
        have hq : ∀ W : World, _ := fun W => T_eq u.k u.a u.b t.k t.a t.b W
        rw [decide_eq_true (show (⟨u.k, u.a, u.b⟩ : T3) = ⟨t.k, t.a, t.b⟩ from hut)] at hq
        have HI : Hid ((k : Int) = idxT L t 0) := hix
        clear hix hut
        go_wp2_with fail
        go_quiet (fail)
        go_wp2_with fail
        go_ret
        exact ⟨ret_int HI.out, below_drewN (below_drewN hk0 _) _⟩
      · rw [if_neg hut] at hix
        have hq : ∀ W : World, _ := fun W => T_eq u.k u.a u.b t.k t.a t.b W
        rw [decide_eq_false (show ¬ (⟨u.k, u.a, u.b⟩ : T3) = ⟨t.k, t.a, t.b⟩ from hut)] at hq
        have HI : Hid (idxT (L.drop (k + 1)) t (k + 1) = idxT L t 0) := hix
        clear hix hut
        go_wp2_with fail
        go_quiet (fail)
        go_wp2_with fail
        go_roundw
        case rel => exact ⟨k + 1, by omega, by go_num, HI.out, _, rfl⟩
        case measure => simp [intOf]; omega
    · obtain rfl : k = L.length := by omega
      have hix2 : (-1 : Int) = idxT L t 0 := by rw [← hix]; simp [idxT]
      have HI : Hid ((-1 : Int) = idxT L t 0) := hix2
      clear hix hix2
      go_wp2_with fail
      go_ret
      exact ⟨ret_int HI.out, below_drewN hk0 m⟩

/-- The document's map, as a value. -/
def MapV (w : World) (c : Cfg) (v : Value) : Prop := ∃ vl, v = .agg #[vl, .int .i64 (manyI c)] ∧ RowT w vl (allT c)

theorem MapV.kept {w w' : World} {c : Cfg} {v : Value} (h : MapV w c v) (k : Kept w w') : MapV w' c v := by
  obtain ⟨vl, rfl, h⟩ := h
  exact ⟨vl, rfl, h.kept k⟩

theorem at_ref {c : Cfg} {v : Value} (k a b : Int) (w : World) (h : MapV w c v) :
    Calls Try.prog 58 #[v, .int .i64 k, .int .i64 a, .int .i64 b] w fun e w' => e = .returned (.int .i64 (placeT c ⟨k, a, b⟩)) ∧ Kept w w' := by
  obtain ⟨vl, rfl, h⟩ := h
  obtain ⟨ao, cap, hv, _⟩ := h.ex
  have hk0 : Kept w (w.alloc (.cells ([vl, .int .i64 (manyI c)] : List Value).toArray 48)) := (Below.refl _ _).alloc (Nat.le_refl _) _
  have h1 := h.kept hk0
  rw [hv] at h1 hk0 ⊢
  clear h hv
  go_enter Try.func58, Try.ntmps58
  go_wp2_with fail
  refine (place_ref ⟨k, a, b⟩ _ h1).mono ?_; rintro e w2 ⟨rfl, hk2⟩
  go_wp2_with fail
  go_ret
  exact ⟨rfl, hk0.trans' hk2⟩

set_option maxRecDepth 8000 in
set_option maxHeartbeats 1600000 in
theorem map_ref (c : Cfg) (w : World) (hg : Good c) :
    Calls Try.prog 17 #[.agg #[.int .i64 c.c0, .int .i64 c.c1, .int .i64 c.c2, .int .i64 c.c3, .int .i64 c.c4, .int .i64 c.mks, .int .i64 c.mus, .int .i64 c.dq, .int .i64 c.ch, .int .i64 c.bu, .int .i64 c.ro, .int .i64 c.sw]] w fun e w' => ∃ v, e = .returned v ∧ MapV w' c v ∧ Kept w w' := by
  have hb1 := Blk.new w 50 [.int .i64 c.c0, .int .i64 c.c1, .int .i64 c.c2, .int .i64 c.c3, .int .i64 c.c4, .int .i64 c.mks, .int .i64 c.mus, .int .i64 c.dq, .int .i64 c.ch, .int .i64 c.bu, .int .i64 c.ro, .int .i64 c.sw]
  have hk0 : Kept w (w.alloc (.cells ([.int .i64 c.c0, .int .i64 c.c1, .int .i64 c.c2, .int .i64 c.c3, .int .i64 c.c4, .int .i64 c.mks, .int .i64 c.mus, .int .i64 c.dq, .int .i64 c.ch, .int .i64 c.bu, .int .i64 c.ro, .int .i64 c.sw] : List Value).toArray 50)) := (Below.refl _ _).alloc (Nat.le_refl _) _
  have hR := fun W => all_ref c W hg
  have hP := fun W => packets_ref c W hg
  go_enter Try.func17, Try.ntmps17
  go_wp2_with fail
  have z1 : (w.alloc (.cells ([.int .i64 c.c0, .int .i64 c.c1, .int .i64 c.c2, .int .i64 c.c3, .int .i64 c.c4, .int .i64 c.mks, .int .i64 c.mus, .int .i64 c.dq, .int .i64 c.ch, .int .i64 c.bu, .int .i64 c.ro, .int .i64 c.sw] : List Value).toArray 50)).heap.size = w.heap.size + 1 := by simp
  generalize w.alloc (.cells ([.int .i64 c.c0, .int .i64 c.c1, .int .i64 c.c2, .int .i64 c.c3, .int .i64 c.c4, .int .i64 c.mks, .int .i64 c.mus, .int .i64 c.dq, .int .i64 c.ch, .int .i64 c.bu, .int .i64 c.ro, .int .i64 c.sw] : List Value).toArray 50) = w1 at *
  have hr0 := Blk.new w1 48 [.slice none 0 0, .int .i64 0]
  rw [z1] at hr0
  have hka : Kept w1 (w1.alloc (.cells ([.slice none 0 0, .int .i64 0] : List Value).toArray 48)) := (Below.refl _ _).alloc (Nat.le_refl _) _
  have hb2 := (hka.blk hb1).drew
  have hr2 := hr0.drew
  have c0 := hb2.cell 0
  have c1 := hb2.cell 1
  have c2 := hb2.cell 2
  have c3 := hb2.cell 3
  have c4 := hb2.cell 4
  have c5 := hb2.cell 5
  have c6 := hb2.cell 6
  have c7 := hb2.cell 7
  have c8 := hb2.cell 8
  have c9 := hb2.cell 9
  have c10 := hb2.cell 10
  have c11 := hb2.cell 11
  simp only [List.getElem?_cons_zero, List.getElem?_cons_succ] at c0 c1 c2 c3 c4 c5 c6 c7 c8 c9 c10 c11
  refine wp_region_z 5 (fun w' => w'.cell? ⟨w.heap.size, 0, none⟩ = some (.int .i64 c.c0) ∧ w'.cell? ⟨w.heap.size, 1, none⟩ = some (.int .i64 c.c1) ∧ w'.cell? ⟨w.heap.size, 2, none⟩ = some (.int .i64 c.c2) ∧ w'.cell? ⟨w.heap.size, 3, none⟩ = some (.int .i64 c.c3) ∧ w'.cell? ⟨w.heap.size, 4, none⟩ = some (.int .i64 c.c4) ∧ w'.cell? ⟨w.heap.size, 5, none⟩ = some (.int .i64 c.mks) ∧ w'.cell? ⟨w.heap.size, 6, none⟩ = some (.int .i64 c.mus) ∧ w'.cell? ⟨w.heap.size, 7, none⟩ = some (.int .i64 c.dq) ∧ w'.cell? ⟨w.heap.size, 8, none⟩ = some (.int .i64 c.ch) ∧ w'.cell? ⟨w.heap.size, 9, none⟩ = some (.int .i64 c.bu) ∧ w'.cell? ⟨w.heap.size, 10, none⟩ = some (.int .i64 c.ro) ∧ w'.cell? ⟨w.heap.size, 11, none⟩ = some (.int .i64 c.sw)) (by kernel_rfl) ?_
  refine wpAnyZ_take (i := 0) (v := ?v0z1) rfl (by kernel_rfl) (by kernel_rfl) (by kernel_rfl) (by kernel_rfl) (fun _ _ _ h => h) (Or.inl ⟨by rfl, ?hy0z1⟩) ⟨c0,c1,c2,c3,c4,c5,c6,c7,c8,c9,c10,c11⟩ ?_
  case hy0z1 => intro w hSw; (try dsimp only at hSw); first | (go_simp; done) | (go_simp; with_reducible rfl)
  try simp only [Act.put, List.setIfInBounds_toArray]
  refine wpAnyZ_take (i := 2) (v := ?v2z2) rfl (by kernel_rfl) (by kernel_rfl) (by kernel_rfl) (by kernel_rfl) (fun _ _ _ h => h) (Or.inl ⟨by rfl, ?hy2z2⟩) ⟨c0,c1,c2,c3,c4,c5,c6,c7,c8,c9,c10,c11⟩ ?_
  case hy2z2 => intro w hSw; (try dsimp only at hSw); first | (go_simp; done) | (go_simp; with_reducible rfl)
  try simp only [Act.put]
  refine wpAnyZ_one (i := 1) (by kernel_rfl) rfl (fun K hK => ?_)
  go_simp
  go_at_call 59
  refine (hR _).mono ?_; rintro e w3 ⟨v3, rfl, hown3, hk3⟩
  have hT3 := RowT.ofOwn hown3
  obtain ⟨ao3, cp3, rfl, _⟩ := hT3.ex
  have hb3 := hk3.blk hb2
  have d0 := hb3.cell 0
  have d1 := hb3.cell 1
  have d2 := hb3.cell 2
  have d3 := hb3.cell 3
  have d4 := hb3.cell 4
  have d5 := hb3.cell 5
  have d6 := hb3.cell 6
  have d7 := hb3.cell 7
  have d8 := hb3.cell 8
  have d9 := hb3.cell 9
  have d10 := hb3.cell 10
  have d11 := hb3.cell 11
  simp only [List.getElem?_cons_zero, List.getElem?_cons_succ] at d0 d1 d2 d3 d4 d5 d6 d7 d8 d9 d10 d11
  refine hK.out _ _ (fun _ => ⟨d0, d1, d2, d3, d4, d5, d6, d7, d8, d9, d10, d11⟩) ?_
  clear hK K
  try simp only [Act.put, List.setIfInBounds_toArray, List.set_cons_zero, List.set_cons_succ]
  refine wpAnyZ_one (i := 3) (by kernel_rfl) rfl (fun K hK => ?_)
  go_simp
  go_at_call 60
  refine (hP _).mono ?_; rintro e w4 ⟨rfl, hk4⟩
  have hT4 := hT3.kept hk4
  have hr4 := hk4.blk (hk3.blk hr2)
  have g0 := hr4.cell 0
  have g1 := hr4.cell 1
  have f0 := hr4.free 0
  have f1 := hr4.free 1
  simp only [List.getElem?_cons_zero, List.getElem?_cons_succ] at g0 g1
  have hb4 := hk4.blk hb3
  have k0 := hb4.cell 0
  have k1 := hb4.cell 1
  have k2 := hb4.cell 2
  have k3 := hb4.cell 3
  have k4 := hb4.cell 4
  have k5 := hb4.cell 5
  have k6 := hb4.cell 6
  have k7 := hb4.cell 7
  have k8 := hb4.cell 8
  have k9 := hb4.cell 9
  have k10 := hb4.cell 10
  have k11 := hb4.cell 11
  simp only [List.getElem?_cons_zero, List.getElem?_cons_succ] at k0 k1 k2 k3 k4 k5 k6 k7 k8 k9 k10 k11
  refine hK.out _ _ (fun _ => ⟨k0, k1, k2, k3, k4, k5, k6, k7, k8, k9, k10, k11⟩) ?_
  clear hK K
  try simp only [Act.put, List.setIfInBounds_toArray, List.set_cons_zero, List.set_cons_succ]
  refine wpAnyZ_one (i := 4) (by kernel_rfl) rfl (fun K hK => ?_)
  go_simp
  refine hK.out _ _ (fun _ => ⟨k0, k1, k2, k3, k4, k5, k6, k7, k8, k9, k10, k11⟩) ?_
  clear hK K
  try simp only [Act.put, List.setIfInBounds_toArray, List.set_cons_zero, List.set_cons_succ]
  refine wpAnyZ_one (i := 5) (by kernel_rfl) rfl (fun K hK => ?_)
  go_simp
  refine hK.out _ _ (fun h => absurd rfl h) ?_
  refine wpAnyZ_done (by kernel_rfl) ?_ _
  clear hK K
  have hr5 : Blk ((w4.setCell ⟨w.heap.size + 1, 0, none⟩ (.slice ao3 (allT c).length cp3)).setCell ⟨w.heap.size + 1, 1, none⟩ (.int .i64 (manyI c))) (w.heap.size + 1) 48 [.slice ao3 (allT c).length cp3, .int .i64 (manyI c)] := (hr4.set' 0 (.slice ao3 (allT c).length cp3) rfl).set' 1 (.int .i64 (manyI c)) rfl
  have hk5 : Kept w ((w4.setCell ⟨w.heap.size + 1, 0, none⟩ (.slice ao3 (allT c).length cp3)).setCell ⟨w.heap.size + 1, 1, none⟩ (.int .i64 (manyI c))) := by
    have h1 : w.heap.size ≤ w.heap.size + 1 := by omega
    have h2 : Kept w w4 := Kept.trans' (Kept.trans' (show Kept w _ from (hk0.trans' hka).drew) hk3) hk4
    exact Below.setCell (Below.setCell h2 (p := ⟨w.heap.size + 1, 0, none⟩) h1 _) (p := ⟨w.heap.size + 1, 1, none⟩) h1 _
  have hT5 : RowT ((w4.setCell ⟨w.heap.size + 1, 0, none⟩ (.slice ao3 (allT c).length cp3)).setCell ⟨w.heap.size + 1, 1, none⟩ (.int .i64 (manyI c))) (.slice ao3 (allT c).length cp3) (allT c) := by
    have hb : ∀ g, Value.ownBlock (.slice ao3 (allT c).length cp3) = some g → g ≠ w.heap.size + 1 := fun g hg e => by have := (ownsRow_base hown3 g hg).1; simp at this; omega
    exact hT4.chg (S := fun q => q = w.heap.size + 1) (((Chg.refl (fun q => q = w.heap.size + 1) w4).setCell ⟨w.heap.size + 1, 0, none⟩ _ (fun _ => rfl)).setCell ⟨w.heap.size + 1, 1, none⟩ _ (fun _ => rfl)) hb
  generalize (w4.setCell ⟨w.heap.size + 1, 0, none⟩ (.slice ao3 (allT c).length cp3)).setCell ⟨w.heap.size + 1, 1, none⟩ (.int .i64 (manyI c)) = w5 at *
  have e0 := hr5.cell 0
  have e1 := hr5.cell 1
  simp only [List.getElem?_cons_zero, List.getElem?_cons_succ] at e0 e1
  go_wp2_with fail
  exact bodyPost_ret (v := .agg #[.slice ao3 (allT c).length cp3, .int .i64 (manyI c)]) (by simp [results, Try.results17, go_sem, e0, e1]) rfl ⟨_, rfl, ⟨_, rfl, hT5⟩, hk5⟩

end Go.Proofs.Ytcejleaedlflaaa
