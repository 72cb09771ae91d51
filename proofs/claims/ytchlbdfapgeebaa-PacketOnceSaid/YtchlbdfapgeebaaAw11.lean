/- Chapter 11's example: walked. -/
import Derived.Test.YtchlbdfapgeebaaAwake11
import Derived.Test.YtchlbdfapgeebaaHeld
namespace Go.Proofs.Ytchlbdfapgeebaa
open Go.RowKit

theorem PmAt.chg {w w' : World} {S : Nat → Prop} {b bi gt bm bs bl : Nat} {s : PM} (h : PmAt w b bi gt bm bs bl s) (k : Chg S w w') (h1 : ¬ S b) (h2 : ¬ S bi) (h3 : ¬ S gt) : PmAt w' b bi gt bm bs bl s := by
  obtain ⟨ap, hall, hlen, hrng, tv, iv, hb, ht, hin⟩ := h
  exact ⟨ap, hall, hlen, hrng, tv, iv, k.blk hb h1, ht.chg k h3, fun e => ⟨(hin e).1, (hin e).2.1.chg k h2, (hin e).2.2⟩⟩

theorem first_facts {c : Cfg} (hg : Good c) : 0 < (firstL c).length ∧ (firstL c).length ≤ 20000 ∧ (∀ x ∈ firstL c, U x) := by
  have := allI_bound hg
  have hn := nN_bound hg
  have hl : (firstL c).length = (allI c).toNat := freeTo_len c _
  exact ⟨by omega, by omega, freeTo_all hg _ (by omega)⟩

theorem Blk.row {w : World} {g : Nat} {t : TypeId} {xs : List Value} (h : Blk w g t xs) (hl : xs.length ≤ maxLen) : Row w (.slice (some ⟨g, 0, none⟩) xs.length xs.length) xs :=
  ⟨⟨some ⟨g, 0, none⟩, xs.length, rfl, hl, fun i u hu => ⟨g, rfl, h.lt, by rw [h.cell i]; exact hu⟩⟩⟩

theorem PM.packet_done {s : PM} (h : s.pc = .done) : s.packet = s.p := by unfold PM.packet; rw [h]; rfl

theorem putA_ok : PmOk putA := ⟨fun _ => ⟨rfl, by decide⟩, fun e => by cases e⟩
theorem takeA_ok : PmOk takeA := ⟨fun e => (by cases e), fun e => by cases e⟩

set_option maxRecDepth 8000 in
set_option maxHeartbeats 1600000 in
theorem awake11_any (w : World) :
    Calls Try.prog 4 #[] w fun e w' => e = .returned (.bool true) ∧ Kept w w' := by
  obtain ⟨hl0, hl1, hall⟩ := first_facts cA_good
  go_enter Try.func4, Try.ntmps4
  go_wp2_with fail
  refine (new_good cA w cA_good).mono ?_; rintro e w1 ⟨bm, rfl, hm1, hk1⟩
  go_wp2_with fail
  refine (first_any w1 hm1 cA_good (Nat.le_refl _)).mono ?_; rintro e w2 ⟨v, rfl, hr2, hk2⟩
  go_wp2_with fail
  refine (new_any w2 hr2 hl0 hl1 hall).mono ?_; rintro e w3 ⟨bs, bl, rfl, hs3, hb3, hl3, hk3⟩
  have hm3 := (hm1.kept hk2 (Nat.le_refl _)).kept hk3 hk2.size
  have hK3 : Kept w w3 := (hk1.trans' hk2).trans' hk3
  have hB : w1.heap.size ≤ w3.heap.size := Nat.le_trans hk2.size hk3.size
  have hB2 : w1.heap.size ≤ w2.heap.size := hk2.size
  have l3 := hs3.lt
  clear hr2 hk2 hk3 hm1
  have hk4 : Kept w3 (w3.alloc (.cells #[.int .u64 7, .int .u64 8] 42)) := (Below.refl _ _).alloc (Nat.le_refl _) _
  have hb4 : Blk (w3.alloc (.cells #[.int .u64 7, .int .u64 8] 42)) w3.heap.size 42 [.int .u64 7, .int .u64 8] := Blk.new _ _ _
  have hc4 : ∀ i u, (([7, 8] : List Int).map (Value.int .u64))[i]? = some u → (w3.alloc (.cells #[.int .u64 7, .int .u64 8] 42)).cell? ((⟨w3.heap.size, 0, none⟩ : Addr).add i) = some u := fun i u hu => by
    rw [show (⟨w3.heap.size, 0, none⟩ : Addr).add i = ⟨w3.heap.size, i, none⟩ from by unfold Addr.add; split <;> simp_all, hb4.cell i]; exact hu
  have hs4 := hs3.kept hk4
  have hm4 := hm3.kept hk4 hB
  go_wp2_with fail
  generalize w3.alloc (.cells #[.int .u64 7, .int .u64 8] 42) = w4 at *
  refine (packPut_any (ts := [7, 8]) (cap := 2) w4 hs4 hm4 (by decide) hc4 hb4.lt (by intro x hx; simp at hx; unfold U; omega) (by decide) (by decide)).mono ?_
  rintro e w5 ⟨b, bi, gt, rfl, hp5, hb5, hi5, hg5, hz5, hk5⟩
  replace hp5 : PmAt w5 b bi gt bm bs bl (pmRun cA 0 x0A).2 := hp5
  have hs5 : StoreAt w5 bs bl (pmRun cA 0 x0A).1 0 := hs4.kept hk5
  have hm5 := hm4.kept hk5 (Nat.le_trans hB hk4.size)
  have hK5 : Kept w w5 := (hK3.trans' hk4).trans' hk5
  have z4 : w3.heap.size ≤ w4.heap.size := hk4.size
  have z5 : w4.heap.size ≤ w5.heap.size := hk5.size
  have z3 : w.heap.size ≤ w1.heap.size := hk1.size
  clear hk1 hK3 hm3 hs3 hk4 hb4 hc4 hs4 hm4 hk5
  go_wp2_with fail
  go_loopw [5] (fun iv wr => ∃ (k : Nat) (bi' : Nat) (n' : Int), k ≤ 8 ∧ iv = .int .i64 ((k : Int) + 1) ∧ PmAt wr b bi' gt bm bs bl (pmRun cA k x0A).2 ∧ (bi' = bi ∨ w5.heap.size ≤ bi') ∧ StoreAt wr bs bl (pmRun cA k x0A).1 n' ∧ Chg (PmB b bi bs bl) w5 wr) (fun iv _ => 20 - (intOf iv).toNat)
  case atStart => exact ⟨0, bi, 0, by omega, rfl, hp5, .inl rfl, hs5, Chg.refl _ _⟩
  case round =>
    obtain ⟨k, bi', n', hk, rfl, h', hbi, hs', hc⟩ := hrel
    have hok' : PmOk (pmRun cA k x0A).2 := pmRun_ok (x := x0A) putA_ok k
    have hm' : MapAt wr w1.heap.size bm cA := hm5.below (hc.toBelow (by omega) (fun i hi e => by rcases e with e | e | e | e <;> omega)) (Nat.le_refl _)
    have D := pstep_all wr cA_good h' hs' hm' (Nat.lt_of_lt_of_le hz5 hc.size) hok'
    rw [show pmStep cA (pmRun cA k x0A).1 (pmRun cA k x0A).2 = pmRun cA (k + 1) x0A from rfl] at D
    have HB : Hid (bi' = bi ∨ w5.heap.size ≤ bi') := hbi
    clear hbi
    by_cases hk8 : k < 8
    · rw [aw1 k hk8] at D
      go_wp2_with fail
      refine D.mono ?_; rintro e w6 ⟨rfl, ⟨bi2, h2, hbi2⟩, hs2, hc2⟩
      go_wp2_with fail
      go_roundw
      case rel =>
        refine ⟨k + 1, bi2, _, by omega, by go_num, h2, ?_, hs2, hc.stepNew hc2 HB.out⟩
        have := HB.out
        have := hc.size
        omega
      case measure => simp [intOf]; omega
    · obtain rfl : k = 8 := by omega
      rw [show (pmRun cA (8 + 1) x0A).2.pc.fin = true from by rw [fin_iff]; exact aw2.1] at D
      go_wp2_with fail
      refine D.mono ?_; rintro e w6 ⟨rfl, ⟨bi2, h6, hbi2⟩, hs6, hc2⟩
      have hc6 := hc.stepNew hc2 HB.out
      have hbi6 : bi2 = bi ∨ w5.heap.size ≤ bi2 := by
        have := HB.out
        have := hc.size
        omega
      have z6 := hc6.size
      have hm6 : MapAt w6 w1.heap.size bm cA := hm5.below (hc6.toBelow (by omega) (fun i hi e => by rcases e with e | e | e | e <;> omega)) (Nat.le_refl _)
      have hK6 : Below w.heap.size w w6 := hK5.trans (hc6.toBelow (by omega) (fun i hi e => by rcases e with e | e | e | e <;> omega))
      clear D hc hc2 h' hs' hm' hok' HB hc6 hm5 hK5 hp5 hs5
      rw [show (pmRun cA (8 + 1) x0A) = pmRun cA 9 x0A from rfl] at h6 hs6
      have HI : Hid (bi2 = bi ∨ w5.heap.size ≤ bi2) := hbi6
      clear hbi6 hbi2
      go_wp2_with fail
      refine (mAll_any w6 hs6).mono ?_; rintro e w7 ⟨rfl, hb7, hk7⟩
      have hr7 : Row w7 (.slice (some ⟨w6.heap.size, 0, none⟩) (pmRun cA 9 x0A).1.length (pmRun cA 9 x0A).1.length) ((pmRun cA 9 x0A).1.map (Value.int .u64)) := by
        have := hb7.row (by have := hs6.le; simp; unfold maxLen; omega)
        simpa using this
      have z7 : w6.heap.size ≤ w7.heap.size := hk7.size
      have hs7 := hs6.kept hk7
      have h7 := (h6.got aw2.1).kept hk7
      rw [aw2.2] at h7
      have hm7 := hm6.kept hk7 (by omega)
      go_wp2_with fail
      refine (held_any w7 cA_good hm7 (by omega) hr7 hs6.pos hs6.le hs6.all).mono ?_; rintro e w8 ⟨v8, rfl, own8, hk8⟩
      rw [aw3] at own8
      obtain ⟨a8, c8, rfl⟩ := own_slice own8
      have z8 : w7.heap.size ≤ w8.heap.size := hk8.size
      have hs8 := hs7.kept hk8
      have h8 := h7.kept hk8
      have hm8 := hm7.kept hk8 (by omega)
      have hK8 : Below w.heap.size w w8 := (hK6.trans (Below.mono hk7 (by omega))).trans (Below.mono hk8 (by omega))
      have hbl : b < w6.heap.size := by obtain ⟨_, _, hbb, _⟩ := h6.ex; exact hbb.lt
      clear hb7 hr7 hk7 hs7 h7 hm7 hk8 h6 hs6 hm6 hK6
      go_wp2_with fail
      refine (take_any w8 hs8 hm8 gt (by omega) (by omega) (by omega)).mono ?_; rintro e w9 ⟨d, di, rfl, h9, hd9, hdi9, hk9⟩
      replace h9 : PmAt w9 d di gt bm bs bl (pmRun cA 0 y0A).2 := h9
      have hs9 : StoreAt w9 bs bl (pmRun cA 0 y0A).1 _ := hs8.kept hk9
      have own9 := ownsRow_kept own8 hk9
      have hx9 := h8.kept hk9
      have hm9 := hm8.kept hk9 (by omega)
      have hK9 : Below w.heap.size w w9 := hK8.trans (Below.mono hk9 (by omega))
      have z9 : w8.heap.size ≤ w9.heap.size := hk9.size
      clear hk9 hK8 hm8 h8 hs8
      go_wp2_with fail
      go_loopw [8] (fun iv wr => ∃ (k : Nat) (bi' : Nat) (n' : Int), k ≤ 2 ∧ iv = .int .i64 ((k : Int) + 1) ∧ PmAt wr d bi' gt bm bs bl (pmRun cA k y0A).2 ∧ (bi' = di ∨ w9.heap.size ≤ bi') ∧ StoreAt wr bs bl (pmRun cA k y0A).1 n' ∧ Chg (PmB d di bs bl) w9 wr) (fun iv _ => 20 - (intOf iv).toNat)
      case atStart => exact ⟨0, di, _, by omega, rfl, h9, .inl rfl, hs9, Chg.refl _ _⟩
      case round =>
        obtain ⟨k, bi', n', hk, rfl, h', hbi, hs', hc⟩ := hrel
        have hok' : PmOk (pmRun cA k y0A).2 := pmRun_ok (x := y0A) takeA_ok k
        have hm' : MapAt wr w1.heap.size bm cA := hm9.below (hc.toBelow (by omega) (fun i hi e => by rcases e with e | e | e | e <;> omega)) (Nat.le_refl _)
        have D := pstep_all wr cA_good h' hs' hm' (by have := hc.size; omega) hok'
        rw [show pmStep cA (pmRun cA k y0A).1 (pmRun cA k y0A).2 = pmRun cA (k + 1) y0A from rfl] at D
        have HB : Hid (bi' = di ∨ w9.heap.size ≤ bi') := hbi
        clear hbi
        by_cases hk2 : k < 2
        · rw [aw4 k hk2] at D
          go_wp2_with fail
          refine D.mono ?_; rintro e w10 ⟨rfl, ⟨bi2, h2, hbi2⟩, hs2, hc2⟩
          go_wp2_with fail
          go_roundw
          case rel =>
            refine ⟨k + 1, bi2, _, by omega, by go_num, h2, ?_, hs2, hc.stepNew hc2 HB.out⟩
            have := HB.out
            have := hc.size
            omega
          case measure => simp [intOf]; omega
        · obtain rfl : k = 2 := by omega
          rw [show (pmRun cA (2 + 1) y0A).2.pc.fin = true from by rw [fin_iff]; exact aw5.1] at D
          go_wp2_with fail
          refine D.mono ?_; rintro e w10 ⟨rfl, ⟨bi3, h10, hbi3⟩, hs10, hc2⟩
          have hc10 := hc.stepNew hc2 HB.out
          have hx10 := hx9.chg hc10 (by intro e; rcases e with e | e | e | e <;> omega)
          have own10 := ownsRow_chg own9 hc10 (fun q hq e => by
            have := ownsRow_base own8 q hq
            rcases e with e | e | e | e <;> omega)
          have hK10 : Below w.heap.size w w10 := hK9.trans (hc10.toBelow (by omega) (fun i hi e => by rcases e with e | e | e | e <;> omega))
          rw [show (pmRun cA (2 + 1) y0A) = pmRun cA 3 y0A from rfl] at h10 hs10
          obtain ⟨g8, rfl, hc8⟩ := own_cell own10 (k := 1) (by simp)
          simp only [List.map_cons, List.map_nil, List.getElem?_cons_zero, List.getElem?_cons_succ] at hc8
          have p1 := ppackGot w10 hx10
          have p2 := ppackGot w10 (h10.got aw5.1)
          rw [aw5.2] at p2
          clear D hc hc2 h' hs' hm' hok' HB hc10 hx9 own9 hm9 hK9 own8
          go_wp2_with fail
          refine p1.mono ?_; rintro e w11 ⟨rfl, rfl⟩
          go_wp2_with fail
          refine p2.mono ?_; rintro e w11 ⟨rfl, rfl⟩
          go_wp2_with fail
          go_ret
          exact ⟨rfl, hK10⟩

end Go.Proofs.Ytchlbdfapgeebaa
