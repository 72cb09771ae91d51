/- The tasks of the pool: walked. Chapter 11's example: walked. Blocks that are owned. Nothing of one function. -/
import Derived.Test.YtcejleaedlflaaaPkWalk
import Derived.Deep.LoopGhost
import Derived.Test.YtcejleaedlflaaaPkF
namespace Go.Proofs.Ytcejleaedlflaaa
open Go.RowKit

theorem walkL_len (lf : Int → Int) (mem : List Int) (k : Nat) (p : Int) : (walkL lf mem k p).length ≤ k := by
  induction k generalizing p with
  | zero => simp [walkL]
  | succ k ih =>
    rw [walkL]
    split
    · have := ih (lf (loI (mget mem p))); simp; omega
    · simp

theorem tasksL_len (c : Cfg) (mem : List Int) (p : Int) : (tasksL c mem p).length = (min (mget mem (pPack c p 0)) 4).toNat := by simp [tasksL]

theorem flat_len (c : Cfg) (mem : List Int) (L : List Int) : (L.flatMap (tasksL c mem)).length ≤ 4 * L.length := by
  induction L with
  | nil => simp
  | cons p L ih =>
    rw [List.flatMap_cons, List.length_append, tasksL_len, List.length_cons]
    have : (min (mget mem (pPack c p 0)) 4).toNat ≤ 4 := by omega
    omega

/-- The tasks of the first k packets. -/
def flatL (c : Cfg) (mem : List Int) (L : List Int) (k : Nat) : List Int := (L.take k).flatMap (tasksL c mem)

theorem flatL_len (c : Cfg) (mem : List Int) (L : List Int) (k : Nat) : (flatL c mem L k).length ≤ 4 * L.length := by
  have := flat_len c mem (L.take k)
  have : (L.take k).length ≤ L.length := by simp; omega
  unfold flatL; omega

theorem flatL_succ {c : Cfg} {mem : List Int} {L : List Int} {k : Nat} (h : k < L.length) : flatL c mem L (k + 1) = flatL c mem L k ++ tasksL c mem (L[k]?.getD 0) := by
  unfold flatL
  rw [show L.take (k + 1) = L.take k ++ [L[k]] from by rw [List.take_add_one, List.getElem?_eq_getElem h]; rfl, List.flatMap_append, List.getElem?_eq_getElem h]
  simp only [List.flatMap_cons, List.flatMap_nil, List.append_nil, Option.getD_some]

theorem tasksL_take {c : Cfg} {mem : List Int} {p : Int} {j : Nat} (h : j < (min (mget mem (pPack c p 0)) 4).toNat) : (tasksL c mem p).take (j + 1) = (tasksL c mem p).take j ++ [mget mem (pTask c p j)] := by
  have hl : j < (tasksL c mem p).length := by rw [tasksL_len]; exact h
  rw [List.take_add_one, List.getElem?_eq_getElem hl]
  simp [tasksL]

theorem own_cell {w : World} {base : Nat} {e : TypeId} {ao : Option Addr} {cap n : Nat} {xs : List Value} (h : w.ownsRow base e 1 (.slice ao n cap) n xs) {k : Nat} (hk : k < xs.length) : ∃ g, ao = some ⟨g, 0, none⟩ ∧ w.cell? ⟨g, k, none⟩ = xs[k]? := by
  obtain ⟨ao', cap', hv, hm, hc⟩ := (Row.ofOwn h).ex
  obtain ⟨g, hg, hl, hcell⟩ := hc k xs[k] (List.getElem?_eq_getElem hk)
  simp at hv
  obtain ⟨rfl, _, rfl⟩ := hv
  exact ⟨g, hg, by rw [hcell, List.getElem?_eq_getElem hk]⟩

set_option maxRecDepth 8000 in
set_option maxHeartbeats 1600000 in
theorem held_any {B bm : Nat} {c : Cfg} {mem : List Int} {v : Value} (w : World) (hg : Good c) (hm : MapAt w B bm c) (hB : B ≤ w.heap.size) (hr : Row w v (mem.map (Value.int .u64))) (hp : 0 < mem.length) (hle : mem.length ≤ 20000) (hall : ∀ x ∈ mem, U x) :
    Calls Try.prog 14 #[.pointer (some ⟨bm, 0, none⟩), v] w fun e w' => ∃ v', e = .returned v' ∧ w'.ownsRow w.heap.size 39 1 v' (heldL c mem).length ((heldL c mem).map (Value.int .u64)) ∧ Kept w w' := by
  obtain ⟨i0, hi, hz0, hz1, hz2⟩ := info_parts info_u64
  have hmb := manyI_bound hg
  obtain ⟨N, hN⟩ : ∃ N : Nat, manyI c = N := ⟨(manyI c).toNat, by omega⟩
  have HN : Hid (manyI c = N) := hN
  have hN2 : N ≤ 4000 := by omega
  clear hN hmb
  go_enter Try.func14, Try.ntmps14
  go_wp2_with fail
  refine (new_any w hr hp hle hall).mono ?_; rintro e w1 ⟨bs, bl, rfl, hs1, hb1, hl1, hk1⟩
  have hm1 := hm.kept hk1 hB
  have hr1 := hr.kept hk1
  have hs1l := hs1.lt
  go_wp2_with fail
  refine (mPool_any bm w1).mono ?_; rintro e w2 ⟨rfl, rfl⟩
  go_wp2_with fail
  refine (mPackets_any w1 hm1).mono ?_; rintro e w2 ⟨rfl, rfl⟩
  rw [HN.out]
  go_wp2_with fail
  refine (walk_any (most := N) w1 hg hm1 (Nat.le_trans hB hk1.size) hr1 hp hle hall hN2).mono ?_; rintro e w2 ⟨vi, rfl, own2, hk2⟩
  obtain ⟨ai, ci, rfl⟩ := own_slice own2
  have HL : Hid (heldL c mem = (walkL (lnk c) mem N 4).flatMap (tasksL c mem)) := by unfold Hid heldL; rw [HN.out]; rfl
  have hLl := walkL_len (lnk c) mem N 4
  generalize walkL (lnk c) mem N 4 = L at *
  have hw2 : w1.heap.size ≤ w2.heap.size := hk2.size
  have own0 : w2.ownsRow w2.heap.size 39 1 (.slice none 0 0) 0 [] := World.ownsRow_nil _ _ _ _
  have hs2 := hs1.kept hk2
  have HK : Hid (Kept w w2) := hk1.trans' hk2
  clear hk1 hk2 hr hr1 hs1 hm1
  go_wp2_with fail
  go_loopg [6, 22] L.length (fun gk vo iv wr => ∃ (k : Nat) (n' : Int), k ≤ L.length ∧ gk = L.length - k ∧ iv = .int .i64 k ∧ wr.ownsRow w2.heap.size 39 1 vo (flatL c mem L k).length ((flatL c mem L k).map (Value.int .u64)) ∧ StoreAt wr bs bl mem n' ∧ Chg (fun i => i = bs) w2 wr)
  case atStart => exact ⟨0, 0, by omega, by omega, rfl, by simpa [flatL] using own0, hs2, Chg.refl _ _⟩
  case round =>
    obtain ⟨k, n', hk, rfl, rfl, own, hs, hc⟩ := hrel
    have hkw : Kept w wr := HK.out.trans (hc.toBelow HK.out.size (fun i hi e => by omega))
    have hmr := hm.kept hkw hB
    by_cases hlt : k < L.length
    · have HF : Hid (flatL c mem L (k + 1) = flatL c mem L k ++ tasksL c mem (L[k]?.getD 0)) := flatL_succ hlt
      have owni := ownsRow_chg own2 hc (fun g hg' e => by have := ownsRow_base own2 g hg'; omega)
      obtain ⟨gi, rfl, hci⟩ := own_cell owni (k := k) (by simpa using hlt)
      rw [List.getElem?_map, List.getElem?_eq_getElem hlt, Option.map_some] at hci
      have hpe : L[k]?.getD 0 = L[k] := by rw [List.getElem?_eq_getElem hlt]; rfl
      rw [hpe] at HF
      have hlt' : (k : Int) < L.length := by omega
      have hfl := flatL_len c mem L k
      generalize L[k] = p at *
      generalize flatL c mem L k = F at *
      clear hpe
      go_wp2_with fail
      refine (mMany_any p wr hmr hg).mono ?_; rintro e w3 ⟨rfl, rfl⟩
      go_wp2_with fail
      refine (load_any (pPack c p 0) wr hs).mono ?_; rintro e w3 ⟨rfl, hs3, hc3⟩
      have hU := mget_all hs.all (pPack c p 0)
      have hU0 : 0 ≤ mget mem (pPack c p 0) := hU.1
      obtain ⟨M, hM⟩ : ∃ M : Nat, min (mget mem (pPack c p 0)) 4 = M := ⟨(min (mget mem (pPack c p 0)) 4).toNat, by omega⟩
      have hM4 : M ≤ 4 := by omega
      have HT : Hid ((tasksL c mem p).length = M) := by unfold Hid; rw [tasksL_len]; omega
      have HT1 : Hid (∀ j, j < M → (tasksL c mem p).take (j + 1) = (tasksL c mem p).take j ++ [mget mem (pTask c p j)]) := fun j hj => tasksL_take (by omega)
      have x1 : IntKind.i64.wrap (M : Int) = M := IntWalk.i64_in _ (by omega)
      clear hU hU0
      have hc3' : Chg (fun i => i = bs) w2 w3 := hc.trans hc3
      have own3 := ownsRow_chg own hc3 (fun g hg' e => by have := ownsRow_base own g hg'; omega)
      clear hs hc hc3 own owni hci hkw hmr
      go_wp2_with fail
      go_loopg [6, 34] M (fun gj vo jv wq => ∃ (j : Nat) (n'' : Int), j ≤ M ∧ gj = M - j ∧ jv = .int .i64 j ∧ wq.ownsRow w2.heap.size 39 1 vo (F ++ (tasksL c mem p).take j).length ((F ++ (tasksL c mem p).take j).map (Value.int .u64)) ∧ StoreAt wq bs bl mem n'' ∧ Chg (fun i => i = bs) w2 wq)
      case atStart => exact ⟨0, _, by omega, by omega, rfl, by simpa using own3, hs3, hc3'⟩
      case round =>
        clear own3 hs3 hc3'
        obtain ⟨j, n'', hj, rfl, rfl, own, hs, hc⟩ := hrel
        obtain ⟨ao, co, hv⟩ := own_slice own
        subst hv
        have hkw : Kept w wr := HK.out.trans (hc.toBelow HK.out.size (fun i hi e => by omega))
        have hmr := hm.kept hkw hB
        by_cases hjm : j < M
        · have HT2 : Hid ((tasksL c mem p).take (j + 1) = (tasksL c mem p).take j ++ [mget mem (pTask c p j)]) := HT1.out j hjm
          have hjm' : (j : Int) < M := by omega
          have hll : (F ++ (tasksL c mem p).take j).length ≤ 30000 := by
            have := HT.out
            simp; omega
          have HJ : Hid ((F ++ (tasksL c mem p).take j) = (F ++ (tasksL c mem p).take j)) := rfl
          generalize hZ : (F ++ (tasksL c mem p).take j) = Z at *
          replace hZ : Hid _ := hZ
          go_wp2_with fail
          refine (mTask_any p j wr hmr hg).mono ?_; rintro e w4 ⟨rfl, rfl⟩
          go_wp2_with fail
          refine (load_any (pTask c p j) wr hs).mono ?_; rintro e w4 ⟨rfl, hs4, hc4⟩
          have own4 := ownsRow_chg own hc4 (fun g hg' e => by have := ownsRow_base own g hg'; omega)
          have hc5 : Chg (fun i => i = bs) w2 w4 := hc.trans hc4
          generalize mget mem (pTask c p j) = r at *
          have hsz4 := hc5.size
          go_wp2_with (at_builtin; refine wpList_append_lies _ rfl _ _ 25 rfl w2.heap.size 39 i0 (.int .u64 0) 1 8 Try.underlying25 hi hz0 hz1 hz2 rfl (by decide) _ _ _ rfl (own4.alloc _) ⟨w4.heap.size, 0, none⟩ 1 1 [.int .u64 r] rfl rfl ?c1 ?c2 (by omega) ?c3 ?c4 ?c5 _ rfl ?_)
          all_goals first
            | (intro j u hj; match j, hj with | 0, hj => (simp at hj; subst hj; simp [Addr.add]; done))
            | (intro u hu; simp at hu; subst hu; rfl)
            | rfl
            | (unfold maxLen; omega)
            | omega
            | (simp; done)
            | (simp; omega)
            | skip
          intro gb cp w5 own5 hgrow _ _
          have hrow : ∀ q, Value.ownBlock (.slice ao Z.length co) = some q → w2.heap.size ≤ q := fun q hq => (ownsRow_base own4 q hq).1
          have hc6 : Chg (fun i => i = bs) w2 w5 := (hc5.alloc _).grown hgrow (fun q hq hq2 => by have := hrow q hq; omega)
          have hs5 : StoreAt w5 bs bl mem (cnt n'') := hs4.chg (((Chg.refl (fun i => w2.heap.size ≤ i) w4).alloc _).grown hgrow (fun q hq _ => hrow q hq)) (by omega) (by omega)
          clear hgrow
          go_wp2_with fail
          go_roundg (M - (j + 1))
          case measure => omega
          case rel =>
            refine ⟨j + 1, _, by omega, rfl, by go_num, ?_, hs5, hc6⟩
            rw [HT2.out, ← List.append_assoc, hZ.out]
            simpa using own5
        · obtain rfl : j = M := by omega
          have HZ : Hid (F ++ (tasksL c mem p).take j = F ++ tasksL c mem p) := by unfold Hid; rw [List.take_of_length_le (by rw [HT.out]; exact Nat.le_refl _)]
          rw [HZ.out] at own
          rw [HZ.out]
          rw [← HF.out] at own
          rw [← HF.out]
          go_wp2_with fail
          go_roundg (L.length - (k + 1))
          case measure => omega
          case rel => exact ⟨k + 1, _, by omega, rfl, by go_num, own, hs, hc⟩
    · obtain rfl : k = L.length := by omega
      obtain ⟨ao, co, hv⟩ := own_slice own
      subst hv
      have hFL : flatL c mem L L.length = heldL c mem := by unfold flatL; rw [List.take_length, HL.out]
      rw [hFL] at own
      rw [hFL]
      have HH : Hid _ := hFL
      clear hFL
      go_wp2_with fail
      go_ret
      exact ⟨_, rfl, ownsRow_mono own HK.out.size, hkw⟩

end Go.Proofs.Ytcejleaedlflaaa

namespace Go.Proofs.Ytcejleaedlflaaa
open Go.RowKit

theorem PmAt.chg {w w' : World} {S : Nat → Prop} {b bi gt bm bs bl : Nat} {s : PM} (h : PmAt w b bi gt bm bs bl s) (k : Chg S w w') (h1 : ¬ S b) (h2 : ¬ S bi) (h3 : ¬ S gt) : PmAt w' b bi gt bm bs bl s := by
  obtain ⟨ap, hall, hlen, hrng, tv, iv, hb, ht, hin⟩ := h
  exact ⟨ap, hall, hlen, hrng, tv, iv, k.blk hb h1, ht.chg k h3, fun e => ⟨(hin e).1, (hin e).2.1.chg k h2, (hin e).2.2⟩⟩

theorem first_facts {c : Cfg} (hg : Good c) : 0 < (firstL c).length ∧ (firstL c).length ≤ 20000 ∧ (∀ x ∈ firstL c, U x) := by
  have := allI_bound hg
  have hn := nN_bound hg
  have hl : (firstL c).length = (allI c).toNat := freeTo_len c _
  exact ⟨by omega, by omega, freeTo_all hg _ (by omega)⟩

theorem Blk.row {w : World} {g : Nat} {t : TypeId} {xs : List Value} (h : Blk w g t xs) (hl : xs.length ≤ maxLen) : Row w (.slice (some ⟨g, 0, none⟩) xs.length xs.length) xs :=
  ⟨⟨some ⟨g, 0, none⟩, xs.length, rfl, hl, fun i u hu => ⟨g, rfl, h.lt, by rw [h.cell i]; exact hu⟩⟩⟩

theorem PM.packet_done {s : PM} (h : s.pc = .done) : s.packet = s.p := by unfold PM.packet; rw [h]; rfl

theorem putA_ok : PmOk putA := ⟨fun _ => ⟨rfl, by decide⟩, fun e => by cases e⟩
theorem takeA_ok : PmOk takeA := ⟨fun e => (by cases e), fun e => by cases e⟩

set_option maxRecDepth 8000 in
set_option maxHeartbeats 1600000 in
theorem awake11_any (w : World) :
    Calls Try.prog 5 #[] w fun e w' => e = .returned (.bool true) ∧ Kept w w' := by
  obtain ⟨hl0, hl1, hall⟩ := first_facts cA_good
  go_enter Try.func5, Try.ntmps5
  go_wp2_with fail
  refine (new_good cA w cA_good).mono ?_; rintro e w1 ⟨bm, rfl, hm1, hk1⟩
  go_wp2_with fail
  refine (first_any w1 hm1 cA_good (Nat.le_refl _)).mono ?_; rintro e w2 ⟨v, rfl, hr2, hk2⟩
  go_wp2_with fail
  refine (new_any w2 hr2 hl0 hl1 hall).mono ?_; rintro e w3 ⟨bs, bl, rfl, hs3, hb3, hl3, hk3⟩
  have hm3 := (hm1.kept hk2 (Nat.le_refl _)).kept hk3 hk2.size
  have hK3 : Kept w w3 := (hk1.trans' hk2).trans' hk3
  have hB : w1.heap.size ≤ w3.heap.size := Nat.le_trans hk2.size hk3.size
  have hB2 : w1.heap.size ≤ w2.heap.size := hk2.size
  have l3 := hs3.lt
  clear hr2 hk2 hk3 hm1
  have hk4 : Kept w3 (w3.alloc (.cells #[.int .u64 7, .int .u64 8] 39)) := (Below.refl _ _).alloc (Nat.le_refl _) _
  have hb4 : Blk (w3.alloc (.cells #[.int .u64 7, .int .u64 8] 39)) w3.heap.size 39 [.int .u64 7, .int .u64 8] := Blk.new _ _ _
  have hc4 : ∀ i u, (([7, 8] : List Int).map (Value.int .u64))[i]? = some u → (w3.alloc (.cells #[.int .u64 7, .int .u64 8] 39)).cell? ((⟨w3.heap.size, 0, none⟩ : Addr).add i) = some u := fun i u hu => by
    rw [show (⟨w3.heap.size, 0, none⟩ : Addr).add i = ⟨w3.heap.size, i, none⟩ from by unfold Addr.add; split <;> simp_all, hb4.cell i]; exact hu
  have hs4 := hs3.kept hk4
  have hm4 := hm3.kept hk4 hB
  go_wp2_with fail
  generalize w3.alloc (.cells #[.int .u64 7, .int .u64 8] 39) = w4 at *
  refine (packPut_any (ts := [7, 8]) (cap := 2) w4 hs4 hm4 (by decide) hc4 hb4.lt (by intro x hx; simp at hx; unfold U; omega) (by decide) (by decide)).mono ?_
  rintro e w5 ⟨b, bi, gt, rfl, hp5, hb5, hi5, hg5, hz5, hk5⟩
  replace hp5 : PmAt w5 b bi gt bm bs bl (pmRun cA 0 x0A).2 := hp5
  have hs5 : StoreAt w5 bs bl (pmRun cA 0 x0A).1 0 := hs4.kept hk5
  have hm5 := hm4.kept hk5 (Nat.le_trans hB hk4.size)
  have hK5 : Kept w w5 := (hK3.trans' hk4).trans' hk5
  have z4 : w3.heap.size ≤ w4.heap.size := hk4.size
  have z5 : w4.heap.size ≤ w5.heap.size := hk5.size
  have z3 : w.heap.size ≤ w1.heap.size := hk1.size
  clear hk1 hK3 hm3 hs3 hk4 hb4 hc4 hs4 hm4 hk5
  go_wp2_with fail
  go_loopw [5] (fun iv wr => ∃ (k : Nat) (bi' : Nat) (n' : Int), k ≤ 8 ∧ iv = .int .i64 ((k : Int) + 1) ∧ PmAt wr b bi' gt bm bs bl (pmRun cA k x0A).2 ∧ (bi' = bi ∨ w5.heap.size ≤ bi') ∧ StoreAt wr bs bl (pmRun cA k x0A).1 n' ∧ Chg (PmB b bi bs bl) w5 wr) (fun iv _ => 20 - (intOf iv).toNat)
  case atStart => exact ⟨0, bi, 0, by omega, rfl, hp5, .inl rfl, hs5, Chg.refl _ _⟩
  case round =>
    obtain ⟨k, bi', n', hk, rfl, h', hbi, hs', hc⟩ := hrel
    have hok' : PmOk (pmRun cA k x0A).2 := pmRun_ok (x := x0A) putA_ok k
    have hm' : MapAt wr w1.heap.size bm cA := hm5.below (hc.toBelow (by omega) (fun i hi e => by rcases e with e | e | e | e <;> omega)) (Nat.le_refl _)
    have D := pstep_all wr cA_good h' hs' hm' (Nat.lt_of_lt_of_le hz5 hc.size) hok'
    rw [show pmStep cA (pmRun cA k x0A).1 (pmRun cA k x0A).2 = pmRun cA (k + 1) x0A from rfl] at D
    have HB : Hid (bi' = bi ∨ w5.heap.size ≤ bi') := hbi
    clear hbi
    by_cases hk8 : k < 8
    · rw [aw1 k hk8] at D
      go_wp2_with fail
      refine D.mono ?_; rintro e w6 ⟨rfl, ⟨bi2, h2, hbi2⟩, hs2, hc2⟩
      go_wp2_with fail
      go_roundw
      case rel =>
        refine ⟨k + 1, bi2, _, by omega, by go_num, h2, ?_, hs2, hc.stepNew hc2 HB.out⟩
        have := HB.out
        have := hc.size
        omega
      case measure => simp [intOf]; omega
    · obtain rfl : k = 8 := by omega
      rw [show (pmRun cA (8 + 1) x0A).2.pc.fin = true from by rw [fin_iff]; exact aw2.1] at D
      go_wp2_with fail
      refine D.mono ?_; rintro e w6 ⟨rfl, ⟨bi2, h6, hbi2⟩, hs6, hc2⟩
      have hc6 := hc.stepNew hc2 HB.out
      have hbi6 : bi2 = bi ∨ w5.heap.size ≤ bi2 := by
        have := HB.out
        have := hc.size
        omega
      have z6 := hc6.size
      have hm6 : MapAt w6 w1.heap.size bm cA := hm5.below (hc6.toBelow (by omega) (fun i hi e => by rcases e with e | e | e | e <;> omega)) (Nat.le_refl _)
      have hK6 : Below w.heap.size w w6 := hK5.trans (hc6.toBelow (by omega) (fun i hi e => by rcases e with e | e | e | e <;> omega))
      clear D hc hc2 h' hs' hm' hok' HB hc6 hm5 hK5 hp5 hs5
      rw [show (pmRun cA (8 + 1) x0A) = pmRun cA 9 x0A from rfl] at h6 hs6
      have HI : Hid (bi2 = bi ∨ w5.heap.size ≤ bi2) := hbi6
      clear hbi6 hbi2
      go_wp2_with fail
      refine (mAll_any w6 hs6).mono ?_; rintro e w7 ⟨rfl, hb7, hk7⟩
      have hr7 : Row w7 (.slice (some ⟨w6.heap.size, 0, none⟩) (pmRun cA 9 x0A).1.length (pmRun cA 9 x0A).1.length) ((pmRun cA 9 x0A).1.map (Value.int .u64)) := by
        have := hb7.row (by have := hs6.le; simp; unfold maxLen; omega)
        simpa using this
      have z7 : w6.heap.size ≤ w7.heap.size := hk7.size
      have hs7 := hs6.kept hk7
      have h7 := (h6.got aw2.1).kept hk7
      rw [aw2.2] at h7
      have hm7 := hm6.kept hk7 (by omega)
      go_wp2_with fail
      refine (held_any w7 cA_good hm7 (by omega) hr7 hs6.pos hs6.le hs6.all).mono ?_; rintro e w8 ⟨v8, rfl, own8, hk8⟩
      rw [aw3] at own8
      obtain ⟨a8, c8, rfl⟩ := own_slice own8
      have z8 : w7.heap.size ≤ w8.heap.size := hk8.size
      have hs8 := hs7.kept hk8
      have h8 := h7.kept hk8
      have hm8 := hm7.kept hk8 (by omega)
      have hK8 : Below w.heap.size w w8 := (hK6.trans (Below.mono hk7 (by omega))).trans (Below.mono hk8 (by omega))
      have hbl : b < w6.heap.size := by obtain ⟨_, _, hbb, _⟩ := h6.ex; exact hbb.lt
      clear hb7 hr7 hk7 hs7 h7 hm7 hk8 h6 hs6 hm6 hK6
      go_wp2_with fail
      refine (take_any w8 hs8 hm8 gt (by omega) (by omega) (by omega)).mono ?_; rintro e w9 ⟨d, di, rfl, h9, hd9, hdi9, hk9⟩
      replace h9 : PmAt w9 d di gt bm bs bl (pmRun cA 0 y0A).2 := h9
      have hs9 : StoreAt w9 bs bl (pmRun cA 0 y0A).1 _ := hs8.kept hk9
      have own9 := ownsRow_kept own8 hk9
      have hx9 := h8.kept hk9
      have hm9 := hm8.kept hk9 (by omega)
      have hK9 : Below w.heap.size w w9 := hK8.trans (Below.mono hk9 (by omega))
      have z9 : w8.heap.size ≤ w9.heap.size := hk9.size
      clear hk9 hK8 hm8 h8 hs8
      go_wp2_with fail
      go_loopw [8] (fun iv wr => ∃ (k : Nat) (bi' : Nat) (n' : Int), k ≤ 2 ∧ iv = .int .i64 ((k : Int) + 1) ∧ PmAt wr d bi' gt bm bs bl (pmRun cA k y0A).2 ∧ (bi' = di ∨ w9.heap.size ≤ bi') ∧ StoreAt wr bs bl (pmRun cA k y0A).1 n' ∧ Chg (PmB d di bs bl) w9 wr) (fun iv _ => 20 - (intOf iv).toNat)
      case atStart => exact ⟨0, di, _, by omega, rfl, h9, .inl rfl, hs9, Chg.refl _ _⟩
      case round =>
        obtain ⟨k, bi', n', hk, rfl, h', hbi, hs', hc⟩ := hrel
        have hok' : PmOk (pmRun cA k y0A).2 := pmRun_ok (x := y0A) takeA_ok k
        have hm' : MapAt wr w1.heap.size bm cA := hm9.below (hc.toBelow (by omega) (fun i hi e => by rcases e with e | e | e | e <;> omega)) (Nat.le_refl _)
        have D := pstep_all wr cA_good h' hs' hm' (by have := hc.size; omega) hok'
        rw [show pmStep cA (pmRun cA k y0A).1 (pmRun cA k y0A).2 = pmRun cA (k + 1) y0A from rfl] at D
        have HB : Hid (bi' = di ∨ w9.heap.size ≤ bi') := hbi
        clear hbi
        by_cases hk2 : k < 2
        · rw [aw4 k hk2] at D
          go_wp2_with fail
          refine D.mono ?_; rintro e w10 ⟨rfl, ⟨bi2, h2, hbi2⟩, hs2, hc2⟩
          go_wp2_with fail
          go_roundw
          case rel =>
            refine ⟨k + 1, bi2, _, by omega, by go_num, h2, ?_, hs2, hc.stepNew hc2 HB.out⟩
            have := HB.out
            have := hc.size
            omega
          case measure => simp [intOf]; omega
        · obtain rfl : k = 2 := by omega
          rw [show (pmRun cA (2 + 1) y0A).2.pc.fin = true from by rw [fin_iff]; exact aw5.1] at D
          go_wp2_with fail
          refine D.mono ?_; rintro e w10 ⟨rfl, ⟨bi3, h10, hbi3⟩, hs10, hc2⟩
          have hc10 := hc.stepNew hc2 HB.out
          have hx10 := hx9.chg hc10 (by intro e; rcases e with e | e | e | e <;> omega)
          have own10 := ownsRow_chg own9 hc10 (fun q hq e => by
            have := ownsRow_base own8 q hq
            rcases e with e | e | e | e <;> omega)
          have hK10 : Below w.heap.size w w10 := hK9.trans (hc10.toBelow (by omega) (fun i hi e => by rcases e with e | e | e | e <;> omega))
          rw [show (pmRun cA (2 + 1) y0A) = pmRun cA 3 y0A from rfl] at h10 hs10
          obtain ⟨g8, rfl, hc8⟩ := own_cell own10 (k := 1) (by simp)
          simp only [List.map_cons, List.map_nil, List.getElem?_cons_zero, List.getElem?_cons_succ] at hc8
          have p1 := ppackGot w10 hx10
          have p2 := ppackGot w10 (h10.got aw5.1)
          rw [aw5.2] at p2
          clear D hc hc2 h' hs' hm' hok' HB hc10 hx9 own9 hm9 hK9 own8
          go_wp2_with fail
          refine p1.mono ?_; rintro e w11 ⟨rfl, rfl⟩
          go_wp2_with fail
          refine p2.mono ?_; rintro e w11 ⟨rfl, rfl⟩
          go_wp2_with fail
          go_ret
          exact ⟨rfl, hK10⟩

end Go.Proofs.Ytcejleaedlflaaa

namespace Go.Proofs.Ytcejleaedlflaaa
open Go.RowKit

/-- The blocks that are owned after a step: those owned ahead, and new ones. -/
def Grow (O : Nat → Prop) (w w' : World) : Nat → Prop := fun k => O k ∨ (w.heap.size ≤ k ∧ k < w'.heap.size)

/-- Owned blocks, and memory's. -/
abbrev OwnB (O : Nat → Prop) (bs bl : Nat) : Nat → Prop := fun k => O k ∨ k = bs ∨ k = bl

/-- New blocks. -/
def NewB (w w' : World) : Nat → Prop := fun k => w.heap.size ≤ k ∧ k < w'.heap.size

theorem Chg.grow {O : Nat → Prop} {bs bl : Nat} {w w1 w2 : World} (h : Chg (OwnB O bs bl) w w1) (k : Chg (OwnB (Grow O w w1) bs bl) w1 w2) : Chg (OwnB O bs bl) w w2 :=
  h.thenNew k (fun i hi e => by
    rcases e with (e | e) | e
    · exact .inl e
    · omega
    · exact .inr e)

theorem Grow.trans {O : Nat → Prop} {w w1 w2 : World} (h : w.heap.size ≤ w1.heap.size) (h2 : w1.heap.size ≤ w2.heap.size) (k : Nat) : Grow (Grow O w w1) w1 w2 k ↔ Grow O w w2 k := by
  constructor
  · rintro ((e | e) | e)
    · exact .inl e
    · exact .inr ⟨e.1, by omega⟩
    · exact .inr ⟨by omega, e.2⟩
  · rintro (e | e)
    · exact .inl (.inl e)
    · by_cases hk : k < w1.heap.size
      · exact .inl (.inr ⟨e.1, hk⟩)
      · exact .inr ⟨by omega, e.2⟩

theorem Grow.eq {O : Nat → Prop} {w w1 w2 : World} (h : w.heap.size ≤ w1.heap.size) (h2 : w1.heap.size ≤ w2.heap.size) : Grow (Grow O w w1) w1 w2 = Grow O w w2 :=
  funext fun k => propext (Grow.trans h h2 k)

theorem Grow.self (O : Nat → Prop) (w : World) : Grow O w w = O := by
  funext k; apply propext; unfold Grow
  constructor
  · rintro (e | e)
    · exact e
    · omega
  · exact .inl

theorem grow_ok {O : Nat → Prop} {w w' : World} {bs bl : Nat} (h : ∀ k, O k → k < w.heap.size ∧ k ≠ bs ∧ k ≠ bl) (hz : w.heap.size ≤ w'.heap.size) (hs : bs < w.heap.size) (hl : bl < w.heap.size) : ∀ k, Grow O w w' k → k < w'.heap.size ∧ k ≠ bs ∧ k ≠ bl := by
  rintro k (e | ⟨e1, e2⟩)
  · exact ⟨Nat.lt_of_lt_of_le (h k e).1 hz, (h k e).2⟩
  · exact ⟨e2, by omega, by omega⟩

theorem PmAt.home {w : World} {b bi bi' gt bm bs bl : Nat} {s : PM} (h : PmAt w b bi' gt bm bs bl s) (h1 : b ≠ bi ∧ bi ≠ bs ∧ bi ≠ bl ∧ gt ≠ bi) : ∃ b2, PmAt w b b2 gt bm bs bl s ∧ (b2 = bi ∨ (b2 = bi' ∧ bi' < w.heap.size)) := by
  by_cases hin : s.pc.inner
  · refine ⟨bi', h, .inr ⟨rfl, ?_⟩⟩
    obtain ⟨_, _, _, _, hi⟩ := h.ex
    obtain ⟨_, ⟨_, _, hq⟩, _⟩ := hi hin
    exact hq.lt
  · obtain ⟨⟨a1, a2, a3, a4, a5, a6, a7, a8, a9⟩, hall, hlen, hrng, tv, iv, hb, ht, hi⟩ := h
    exact ⟨bi, ⟨⟨h1.1, a2, a3, h1.2.1, h1.2.2.1, a6, h1.2.2.2, a8, a9⟩, hall, hlen, hrng, tv, iv, hb, ht, fun e => absurd e hin⟩, .inl rfl⟩

theorem Chg.ownBelow {O : Nat → Prop} {bs bl B : Nat} {w w' : World} (h : Chg (OwnB O bs bl) w w') (hB : B ≤ w.heap.size) (hO : ∀ k, O k → B ≤ k) (hs : B ≤ bs) (hl : B ≤ bl) : Below B w w' :=
  h.toBelow hB (fun q hq e => by rcases e with e | e | e; have := hO q e; omega; omega; omega)

theorem NewB.ge {w w' : World} {B : Nat} (h : B ≤ w.heap.size) : ∀ k, NewB w w' k → B ≤ k := fun _ hk => Nat.le_trans h hk.1

theorem below_blk {B : Nat} {w w' : World} (h : Below B w w') {b t l} (hb : Blk w b t l) (hl : b < B) : Blk w' b t l := by
  unfold Blk; rw [h.block b hl]; exact hb

theorem below_drewN {B : Nat} {w w' : World} (h : Below B w w') (k : Nat) : Below B w (w'.drewN k) := ⟨h.os, h.tape, h.output, h.size, h.block⟩

theorem wrap_small {x : Int} (h0 : 0 ≤ x) (h1 : x ≤ 100000) : IntKind.i64.wrap x = x := IntWalk.i64_in _ (by omega)

end Go.Proofs.Ytcejleaedlflaaa
