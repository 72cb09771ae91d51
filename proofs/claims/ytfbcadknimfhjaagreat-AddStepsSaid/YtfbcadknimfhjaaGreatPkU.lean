/- Are two memories the same: walked. Machines' steps keep memory's length, and a packet's tasks. No walk. A packet's machine: what begins. A slice of pokes that a law was handed. Nothing of one law. Add's machine, where there is none; add without a map: walked. Five arguments, read as data, apart. Nothing of one law. -/
import Derived.Test.YtfbcadknimfhjaaGreatPkC
import Derived.Deep.QuietTactic
import Derived.BigQuiet
import Derived.Test.YtfbcadknimfhjaaGreatPkDeq
import Derived.Test.YtfbcadknimfhjaaGreatPkE
import Derived.Test.YtfbcadknimfhjaaGreatPkPkS
import Derived.Test.YtfbcadknimfhjaaGreatPkW
import Derived.Test.YtfbcadknimfhjaaGreatPkM
import Derived.Deep.SlicePairs
import Derived.Test.YtfbcadknimfhjaaGreatPkG
namespace Go.Proofs.YtfbcadknimfhjaaGreat
open Go.RowKit

theorem Row.at {w : World} {v : Value} {xs : List Int} (h : Row w v (xs.map (Value.int .u64))) : ∃ ao cap, v = .slice ao xs.length cap ∧ xs.length ≤ maxLen ∧ ∀ i, i < xs.length → ∃ g, ao = some ⟨g, 0, none⟩ ∧ w.cell? ⟨g, i, none⟩ = some (.int .u64 (xs[i]?.getD 0)) := by
  obtain ⟨ao, cap, rfl, hm, hc⟩ := h.ex
  rw [List.length_map] at hm
  refine ⟨ao, cap, by simp, hm, fun i hi => ?_⟩
  obtain ⟨g, e, _, h⟩ := hc i (.int .u64 (xs[i]'hi)) (by simp [List.getElem?_eq_getElem hi])
  exact ⟨g, e, by rw [h, List.getElem?_eq_getElem hi]; rfl⟩

set_option maxRecDepth 8000 in
theorem same_any {va vb : Value} {xs ys : List Int} (w : World) (ha : Row w va (xs.map (Value.int .u64))) (hb : Row w vb (ys.map (Value.int .u64))) :
    Calls Tryz.prog 19 #[va, vb] w fun e w' => e = .returned (.bool (decide (xs = ys))) ∧ Kept w w' := by
  obtain ⟨ao, ca, rfl, hma, hca⟩ := ha.at
  obtain ⟨bo, cb, rfl, hmb, hcb⟩ := hb.at
  have hka : (xs.length : Int) ≤ 9223372036854775807 := by unfold maxLen at hma; omega
  by_cases hl : xs.length = ys.length
  · have hlb : ((xs.length : Int) != (ys.length : Int)) = false := by simp; omega
    have HL : Hid (xs.length = ys.length) := hl
    have HA : Hid _ := hca
    have HB : Hid _ := hcb
    clear hl hca hcb ha hb
    go_enter Tryz.func19, Tryz.ntmps19
    go_wp2_with fail
    go_loopw [5] (fun iv wr => ∃ k : Nat, k ≤ xs.length ∧ iv = .int .i64 k ∧ (∀ j : Nat, j < k → xs[j]?.getD 0 = ys[j]?.getD 0) ∧ ∃ m, wr = w.drewN m) (fun iv _ => xs.length - (intOf iv).toNat)
    case atStart => exact ⟨0, by omega, rfl, fun j hj => by omega, 0, rfl⟩
    case round =>
      obtain ⟨k, hk, rfl, hin, m, rfl⟩ := hrel
      have HI : Hid _ := hin
      clear hin
      by_cases hlt : (k : Int) < xs.length
      · have hlt' : k < xs.length := by omega
        have hlt2 : (k : Int) < ys.length := by have := HL.out; omega
        have hk0 : (0 : Int) ≤ k := by omega
        obtain ⟨ga, rfl, hc1⟩ := HA.out k hlt'
        obtain ⟨gb, rfl, hc2⟩ := HB.out k (by have := HL.out; omega)
        obtain ⟨x, hx⟩ : ∃ x, xs[k]?.getD 0 = x := ⟨_, rfl⟩
        obtain ⟨y, hy⟩ : ∃ y, ys[k]?.getD 0 = y := ⟨_, rfl⟩
        rw [hx] at hc1
        rw [hy] at hc2
        have HX : Hid (xs[k]?.getD 0 = x) := hx
        have HY : Hid (ys[k]?.getD 0 = y) := hy
        clear hx hy
        by_cases hxy : x = y
        · have hd : (x != y) = false := by simpa using hxy
          have HXY : Hid (x = y) := hxy
          clear hxy
          go_wp2_with fail
          go_quiet (fail)
          go_wp2_with fail
          go_roundw
          case rel =>
            refine ⟨k + 1, by omega, by go_num, fun j hj => ?_, ?_⟩
            · by_cases e : j = k
              · subst e; rw [HX.out, HY.out]; exact HXY.out
              · exact HI.out j (by omega)
            · exact ⟨_, rfl⟩
          case measure => simp [intOf]; omega
        · have hd : (x != y) = true := by simpa using hxy
          have HXY : Hid (¬ x = y) := hxy
          clear hxy
          go_wp2_with fail
          go_quiet (fail)
          go_wp2_with fail
          go_ret
          refine ⟨ret_bool (decide_eq_false (fun e => HXY.out ?_)).symm, ⟨rfl, rfl, rfl, Nat.le_refl _, fun _ _ => rfl⟩⟩
          rw [← HX.out, ← HY.out, e]
      · go_wp2_with fail
        go_ret
        refine ⟨ret_bool (decide_eq_true ?_).symm, ⟨rfl, rfl, rfl, Nat.le_refl _, fun _ _ => rfl⟩⟩
        apply List.ext_getElem HL.out
        intro j h1 h2
        have := HI.out j (by omega)
        rw [List.getElem?_eq_getElem h1, List.getElem?_eq_getElem h2] at this
        exact this
  · have hlb : ((xs.length : Int) != (ys.length : Int)) = true := by simp; omega
    have HL : Hid (¬ xs.length = ys.length) := hl
    clear hl hca hcb ha hb
    go_enter Tryz.func19, Tryz.ntmps19
    go_wp2_with fail
    go_ret
    exact ⟨ret_bool (decide_eq_false (fun e => HL.out (by rw [e]))).symm, Below.refl _ _⟩

end Go.Proofs.YtfbcadknimfhjaaGreat

namespace Go.Proofs.YtfbcadknimfhjaaGreat
open Go.RowKit

theorem smStep_len (lf : Int → Int) (mem : List Int) (s : SM) : (smStep lf mem s).1.length = mem.length := by
  obtain ⟨pc, hd, it, h, l⟩ := s
  cases pc <;> simp only [smStep]
  all_goals first | rfl | exact mput_len _ _ _ | (split; (· exact mput_len _ _ _); (· rfl))

theorem pmStep_len (c : Cfg) (mem : List Int) (s : PM) : (pmStep c mem s).1.length = mem.length := by
  obtain ⟨pc, ts, j, p, x⟩ := s
  cases pc
  · rfl
  · exact smStep_len _ _ _
  · exact mput_len _ _ _
  · exact mput_len _ _ _
  · exact smStep_len _ _ _

theorem pmStep_same (c : Cfg) (mem : List Int) (s : PM) : (pmStep c mem s).2.tasks = s.tasks := by
  obtain ⟨pc, ts, j, p, x⟩ := s
  cases pc
  · rfl
  · simp only [pmStep, pmSpare]; split
    · split <;> rfl
    · rfl
  · rfl
  · rfl
  · simp only [pmStep, pmLast]; split <;> rfl

theorem dqStep_len (e : DEnds) (mem : List Int) (d : DQ) : (dqStep e mem d).1.length = mem.length := by
  obtain ⟨pc, b, t, wd, out, won⟩ := d
  cases pc <;> simp only [dqStep]
  all_goals first | rfl | exact mput_len _ _ _ | (split; (· exact mput_len _ _ _); (· rfl))

end Go.Proofs.YtfbcadknimfhjaaGreat

namespace Go.Proofs.YtfbcadknimfhjaaGreat
open Go.RowKit

/-- What a put begins with. -/
def put0 (ts : List Int) : PM := if ts.length = 0 then ⟨.done, [], 0, 0, ⟨.popHead, 5, 0, 0, 0⟩⟩ else ⟨.spare, ts.take 4, 0, 0, ⟨.popHead, 5, 0, 0, 0⟩⟩

def take0 : PM := ⟨.last, [], 0, 0, ⟨.popHead, 4, 0, 0, 0⟩⟩

def back0 (c : Cfg) (p : Int) : PM := if 1 ≤ p ∧ p ≤ manyI c then ⟨.last, [], 0, 0, ⟨.pushHead, 5, p, 0, 0⟩⟩ else ⟨.done, [], 0, 0, ⟨.pushHead, 5, p, 0, 0⟩⟩

theorem PmAt.blt2 {w : World} {b bi gt bm bs bl : Nat} {s : PM} (h : PmAt w b bi gt bm bs bl s) : b < w.heap.size := by
  obtain ⟨_, _, _, _, tv, iv, hb, _, _⟩ := h
  exact hb.lt

section
variable {bm bs bl B : Nat} {c : Cfg} {mem : List Int} {n : Int}

theorem putU {ao : Option Addr} {tl cap : Nat} {ts : List Int} (w : World) (hs : StoreAt w bs bl mem n) (hm : MapAt w B bm c) (hB : B ≤ w.heap.size) (ht : Reads w (.slice ao tl cap) (ts.map (Value.int .u64))) (hn : tl = ts.length) (hall : ∀ x ∈ ts, U x) (hle : ts.length ≤ 1000) :
    Calls Tryz.prog 73 #[.pointer (some ⟨bm, 0, none⟩), .slice ao tl cap] w fun e w' => ∃ b, e = .returned (.pointer (some ⟨b, 0, none⟩)) ∧ PkAt w' b B bm bs bl (fun q => B ≤ q ∧ q < w.heap.size) (put0 ts) ∧ Kept w w' := by
  obtain ⟨s1, s2⟩ := hs.lt
  by_cases h0 : ts.length = 0
  · obtain rfl : tl = 0 := by omega
    refine (putEmpty (.pointer (some ⟨bm, 0, none⟩)) (.inr ⟨bm, rfl⟩) ao cap (fun e => ?_) w).mono ?_
    · subst e
      rcases ht with ⟨e, _⟩ | ⟨ad, cap', e, _⟩
      · simp only [Value.slice.injEq] at e; exact e.2.2
      · simp at e
    · rintro e w' ⟨rfl, hp, hk⟩
      refine ⟨_, rfl, ?_, hk⟩
      unfold put0; rw [if_pos h0]
      exact ⟨⟨fun e => (by cases e), fun e => (by cases e)⟩, hB, hp.lt, ⟨by omega, by omega, fun e => (by omega)⟩, .inl ⟨rfl, hp⟩⟩
  · have h0' : 0 < ts.length := by omega
    obtain rfl := hn
    rcases ht with ⟨_, e⟩ | ⟨ad, cap', e, hc1, _, hcell⟩
    · have := congrArg List.length e; simp at this; simp [this] at h0
    simp only [Value.slice.injEq] at e
    obtain ⟨rfl, _, rfl⟩ := e
    have hadl : ad.block < w.heap.size := by
      have hb : (ad.add 0).block = ad.block := by unfold Addr.add; split <;> rfl
      rw [← hb]
      exact lt_of_cell (hcell 0 (.int .u64 (ts[0]'h0')) (by rw [List.getElem?_map, List.getElem?_eq_getElem h0']; rfl))
    refine (packPut_any w hs hm (by simpa using hc1) hcell hadl hall h0' hle).mono ?_
    rintro e w' ⟨b, bi, gt, rfl, hp, h1, h2, h3, h4, hk⟩
    refine ⟨b, rfl, ?_, hk⟩
    unfold put0; rw [if_neg h0]
    exact ⟨⟨fun _ => ⟨rfl, (by simp; omega)⟩, fun e => (by cases e)⟩, by omega, hp.blt2, ⟨by omega, by omega, fun e => (by omega)⟩, .inr ⟨bi, gt, hp, by omega, h4, ⟨by omega, by omega, fun e => (by omega)⟩, ⟨by omega, by omega, fun e => (by omega)⟩⟩⟩

end

end Go.Proofs.YtfbcadknimfhjaaGreat

namespace Go.Proofs.YtfbcadknimfhjaaGreat
open Go.ChangeShapes Go.WideShapes Go.ChangeAt Go.RowKit

/-- Pokes that can be read. -/
def Pokes (w : World) (v : Value) (ps : List (Int × Int)) : Prop :=
  (∀ q ∈ ps, (-9223372036854775808 ≤ q.1 ∧ q.1 ≤ 9223372036854775807) ∧ U q.2) ∧ ((v = .slice none 0 0 ∧ ps = []) ∨ ∃ ad cap, v = .slice (some ad) ps.length cap ∧ ps.length ≤ cap ∧ cap ≤ maxLen ∧ ∀ i q, ps[i]? = some q → w.cell? (ad.add (i * 2)) = some (.int .i64 q.1) ∧ w.cell? (ad.add (i * 2 + 1)) = some (.int .u64 q.2))

theorem Pokes.kept {w w' : World} {v : Value} {ps : List (Int × Int)} (h : Pokes w v ps) (k : Kept w w') : Pokes w' v ps := by
  obtain ⟨h0, h1 | ⟨ad, cap, h1, h2, h3, h4⟩⟩ := h
  · exact ⟨h0, .inl h1⟩
  · refine ⟨h0, .inr ⟨ad, cap, h1, h2, h3, fun i q hq => ?_⟩⟩
    obtain ⟨a, b⟩ := h4 i q hq
    exact ⟨by rw [Below.cell k (lt_of_cell a)]; exact a, by rw [Below.cell k (lt_of_cell b)]; exact b⟩

theorem Pokes.form {w : World} {v : Value} {ps : List (Int × Int)} (h : Pokes w v ps) : ∃ ao cap, v = .slice ao ps.length cap := by
  obtain ⟨_, ⟨rfl, rfl⟩ | ⟨ad, cap, h1, _⟩⟩ := h
  · exact ⟨none, 0, rfl⟩
  · exact ⟨_, _, h1⟩

theorem Pokes.get {w : World} {v : Value} {ps : List (Int × Int)} (h : Pokes w v ps) {i : Nat} (hi : i < ps.length) : ∃ ad cap, v = .slice (some ad) ps.length cap ∧ w.cell? (ad.add (i * 2)) = some (.int .i64 ps[i].1) ∧ w.cell? (ad.add (i * 2 + 1)) = some (.int .u64 ps[i].2) := by
  obtain ⟨_, ⟨_, rfl⟩ | ⟨ad, cap, h1, h2, h3, h4⟩⟩ := h
  · simp at hi
  · obtain ⟨a, b⟩ := h4 i ps[i] (List.getElem?_eq_getElem hi)
    exact ⟨ad, cap, h1, a, b⟩

theorem Pokes.at {w : World} {v : Value} {ps : List (Int × Int)} (h : Pokes w v ps) {i : Nat} (hi : i < ps.length) : ∃ sb so cap, v = .slice (some ⟨sb, so, none⟩) ps.length cap ∧ sb < w.heap.size ∧ w.cell? ⟨sb, so + i * 2, none⟩ = some (.int .i64 ps[i].1) ∧ w.cell? ⟨sb, so + i * 2 + 1, none⟩ = some (.int .u64 ps[i].2) := by
  obtain ⟨_, ⟨_, rfl⟩ | ⟨⟨sb, so, spot⟩, cap, h1, _, _, h4⟩⟩ := h
  · simp at hi
  obtain ⟨h2, h3⟩ := h4 i ps[i] (List.getElem?_eq_getElem hi)
  have h0 := (h4 0 ps[0] (List.getElem?_eq_getElem (by omega))).1
  have hspot : spot = none := World.cell?_spot h0
  subst hspot
  rw [Go.WideShapes.add_plain] at h2 h3
  exact ⟨sb, so, cap, h1, lt_of_cell h2, h2, by rw [Nat.add_assoc]; exact h3⟩

set_option maxRecDepth 100000 in
theorem open_pokes {H : Type} {enc : TypeId × Value → H} {W : World} {v : Value} {d : DataW H} {p : List MemPlace} {held : Bool} (hv : Value.okWide Tryz.prog W .any 0 26 v) (h : DataW.Trod enc Tryz.prog W 0 (fun _ => true) held 26 v d p) : ∃ ps, Pokes W v ps := by
  obtain ⟨a0, len, cap, rfl⟩ := okWide_slice Tryz.underlying26 hv
  obtain ⟨fuel, hf⟩ := h
  rcases Go.Deep.open_slice_pairs Tryz.underlying26 Tryz.underlying67 (by kernel_rfl) rfl rfl (by kernel_rfl) (by kernel_rfl) hf with ⟨hcs, hx⟩ | ⟨a, len', cap', m, n, V0, V1, D0, D1, P0, P1, hcs, _, hl, hm, hmm, hx, hall⟩
  · refine ⟨[], (fun x hx => by cases hx), .inl ⟨?_, rfl⟩⟩
    simpa [Value.cells] using hcs
  · simp [Value.cells] at hcs
    obtain ⟨rfl, rfl, rfl⟩ := hcs
    simp only [if_true] at hmm
    subst hmm
    have h0 : ∀ i, i < len → V0 i = .int .i64 (intOf (V0 i)) ∧ (Lit.int .i64 (intOf (V0 i))).wf = true := fun i hi => by
      obtain ⟨n, h1, _, h3⟩ := DataW.trod_int Tryz.underlying3 (hall i (by omega)).2.2.1
      simp only [List.cons.injEq, and_true] at h1
      rw [h1]
      exact ⟨rfl, h3⟩
    have h1 : ∀ i, i < len → V1 i = .int .u64 (intOf (V1 i)) ∧ (Lit.int .u64 (intOf (V1 i))).wf = true := fun i hi => by
      obtain ⟨n, h1, _, h3⟩ := DataW.trod_int Tryz.underlying25 (hall i (by omega)).2.2.2
      simp only [List.cons.injEq, and_true] at h1
      rw [h1]
      exact ⟨rfl, h3⟩
    refine ⟨(List.range len).map fun i => (intOf (V0 i), intOf (V1 i)), fun q hq => ?_, .inr ⟨a, m, by simp, by simpa using hl, hm, fun i q hq => ?_⟩⟩
    · simp only [List.mem_map, List.mem_range] at hq
      obtain ⟨i, hi, rfl⟩ := hq
      exact ⟨bounds_i64 (h0 i hi).2, words_u64 (h1 i hi).2⟩
    · have hi : i < len := by
        rcases Nat.lt_or_ge i len with h' | h'
        · exact h'
        · rw [List.getElem?_eq_none (by simpa using h')] at hq; cases hq
      rw [List.getElem?_map, List.getElem?_range hi] at hq
      simp at hq
      subst hq
      have hc := hall i (by omega)
      exact ⟨by rw [hc.1, (h0 i hi).1]; rfl, by rw [hc.2.1, (h1 i hi).1]; rfl⟩

end Go.Proofs.YtfbcadknimfhjaaGreat

namespace Go.Proofs.YtfbcadknimfhjaaGreat
open Go.RowKit

theorem addStepNil (w : World) (sp : Value) :
    Calls Tryz.prog 16 #[.pointer none, sp] w fun r w' => r = .returned (.bool true) ∧ w = w' := by
  go_enter Tryz.func16, Tryz.ntmps16
  go_wp2_with fail
  go_ret
  exact ⟨rfl, rfl⟩

theorem addSpilledNil (w : World) :
    Calls Tryz.prog 18 #[.pointer none] w fun r w' => r = .returned (.bool false) ∧ w = w' := by
  go_enter Tryz.func18, Tryz.ntmps18
  go_wp2_with fail
  go_ret
  exact ⟨rfl, rfl⟩

theorem addNewNil (i x : Int) (w : World) :
    Calls Tryz.prog 12 #[.pointer none, .int .i64 i, .int .u64 x] w fun r w' => r = .returned (.pointer (some ⟨w.heap.size, 0, none⟩)) ∧ AdNone w' w.heap.size ∧ Kept w w' := by
  have hb := Blk.new w 94 [.pointer none, .int .u64 x, .pointer none, .pointer none, .bool false, .nilFunc]
  have hk : Kept w (w.alloc (.cells ([.pointer none, .int .u64 x, .pointer none, .pointer none, .bool false, .nilFunc] : List Value).toArray 94)) := (Below.refl _ _).alloc (Nat.le_refl _) _
  go_enter Tryz.func12, Tryz.ntmps12
  go_wp2_with fail
  refine (mTop_nil i _).mono ?_; rintro r w2 ⟨rfl, rfl⟩
  go_wp2_with fail
  go_ret
  exact ⟨rfl, ⟨_, _, _, _, hb⟩, hk⟩

end Go.Proofs.YtfbcadknimfhjaaGreat

namespace Go.Proofs.YtfbcadknimfhjaaGreat
open Go.ChangeShapes Go.WideShapes Go.ChangeAt Go.RowKit

section
variable {H : Type} {enc : TypeId × Value → H} {P : Program} {w : World} {base : Nat} {spare : Nat → Bool} {held : Bool}

theorem trodAll_five {t0 t1 t2 t3 t4 : TypeId} {args : Array Value} {ds : List (DataW H)} {ps : List MemPlace} (h : DataW.TrodAll enc P w base spare held [t0, t1, t2, t3, t4] args.toList ds ps) :
    ∃ v0 v1 v2 v3 v4 d0 d1 d2 d3 d4 p0 p1 p2 p3 p4, args = #[v0, v1, v2, v3, v4] ∧ ds = [d0, d1, d2, d3, d4] ∧ ps = p0 ++ p1 ++ p2 ++ p3 ++ p4 ∧ DataW.Trod enc P w base spare held t0 v0 d0 p0 ∧ DataW.Trod enc P w base spare held t1 v1 d1 p1 ∧ DataW.Trod enc P w base spare held t2 v2 d2 p2 ∧ DataW.Trod enc P w base spare held t3 v3 d3 p3 ∧ DataW.Trod enc P w base spare held t4 v4 d4 p4 := by
  obtain ⟨v0, vs0, d0, ds0, p0, q0, hargs, rfl, rfl, h0, r0⟩ := trodAll_cons h
  obtain ⟨v1, vs1, d1, ds1, p1, q1, rfl, rfl, rfl, h1, r1⟩ := trodAll_cons r0
  obtain ⟨v2, vs2, d2, ds2, p2, q2, rfl, rfl, rfl, h2, r2⟩ := trodAll_cons r1
  obtain ⟨v3, vs3, d3, ds3, p3, q3, rfl, rfl, rfl, h3, r3⟩ := trodAll_cons r2
  obtain ⟨v4, vs4, d4, ds4, p4, q4, rfl, rfl, rfl, h4, r4⟩ := trodAll_cons r3
  obtain ⟨rfl, rfl, rfl⟩ := trodAll_nil r4
  exact ⟨v0, v1, v2, v3, v4, d0, d1, d2, d3, d4, p0, p1, p2, p3, p4, by cases args; simp_all, rfl, by simp, h0, h1, h2, h3, h4⟩

theorem trodAll_mk5 {t0 t1 t2 t3 t4 : TypeId} {v0 v1 v2 v3 v4 : Value} {d0 d1 d2 d3 d4 : DataW H} {p0 p1 p2 p3 p4 : List MemPlace} (h0 : DataW.Trod enc P w base spare held t0 v0 d0 p0) (h1 : DataW.Trod enc P w base spare held t1 v1 d1 p1)
    (h2 : DataW.Trod enc P w base spare held t2 v2 d2 p2) (h3 : DataW.Trod enc P w base spare held t3 v3 d3 p3) (h4 : DataW.Trod enc P w base spare held t4 v4 d4 p4) : DataW.TrodAll enc P w base spare held [t0, t1, t2, t3, t4] [v0, v1, v2, v3, v4] [d0, d1, d2, d3, d4] (p0 ++ (p1 ++ (p2 ++ (p3 ++ p4)))) := ⟨p0, p1 ++ (p2 ++ (p3 ++ p4)), h0, trodAll_mk4 h1 h2 h3 h4, rfl⟩

end

end Go.Proofs.YtfbcadknimfhjaaGreat
