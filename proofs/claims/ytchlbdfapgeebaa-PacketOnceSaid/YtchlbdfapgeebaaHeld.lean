/- The tasks of the pool: walked. -/
import Derived.Test.YtchlbdfapgeebaaWalk
import Derived.Deep.LoopGhost
namespace Go.Proofs.Ytchlbdfapgeebaa
open Go.RowKit

theorem walkL_len (lf : Int → Int) (mem : List Int) (k : Nat) (p : Int) : (walkL lf mem k p).length ≤ k := by
  induction k generalizing p with
  | zero => simp [walkL]
  | succ k ih =>
    rw [walkL]
    split
    · have := ih (lf (loI (mget mem p))); simp; omega
    · simp

theorem tasksL_len (c : Cfg) (mem : List Int) (p : Int) : (tasksL c mem p).length = (min (mget mem (pPack c p 0)) 4).toNat := by simp [tasksL]

theorem flat_len (c : Cfg) (mem : List Int) (L : List Int) : (L.flatMap (tasksL c mem)).length ≤ 4 * L.length := by
  induction L with
  | nil => simp
  | cons p L ih =>
    rw [List.flatMap_cons, List.length_append, tasksL_len, List.length_cons]
    have : (min (mget mem (pPack c p 0)) 4).toNat ≤ 4 := by omega
    omega

/-- The tasks of the first k packets. -/
def flatL (c : Cfg) (mem : List Int) (L : List Int) (k : Nat) : List Int := (L.take k).flatMap (tasksL c mem)

theorem flatL_len (c : Cfg) (mem : List Int) (L : List Int) (k : Nat) : (flatL c mem L k).length ≤ 4 * L.length := by
  have := flat_len c mem (L.take k)
  have : (L.take k).length ≤ L.length := by simp; omega
  unfold flatL; omega

theorem flatL_succ {c : Cfg} {mem : List Int} {L : List Int} {k : Nat} (h : k < L.length) : flatL c mem L (k + 1) = flatL c mem L k ++ tasksL c mem (L[k]?.getD 0) := by
  unfold flatL
  rw [show L.take (k + 1) = L.take k ++ [L[k]] from by rw [List.take_add_one, List.getElem?_eq_getElem h]; rfl, List.flatMap_append, List.getElem?_eq_getElem h]
  simp only [List.flatMap_cons, List.flatMap_nil, List.append_nil, Option.getD_some]

theorem tasksL_take {c : Cfg} {mem : List Int} {p : Int} {j : Nat} (h : j < (min (mget mem (pPack c p 0)) 4).toNat) : (tasksL c mem p).take (j + 1) = (tasksL c mem p).take j ++ [mget mem (pTask c p j)] := by
  have hl : j < (tasksL c mem p).length := by rw [tasksL_len]; exact h
  rw [List.take_add_one, List.getElem?_eq_getElem hl]
  simp [tasksL]

theorem own_cell {w : World} {base : Nat} {e : TypeId} {ao : Option Addr} {cap n : Nat} {xs : List Value} (h : w.ownsRow base e 1 (.slice ao n cap) n xs) {k : Nat} (hk : k < xs.length) : ∃ g, ao = some ⟨g, 0, none⟩ ∧ w.cell? ⟨g, k, none⟩ = xs[k]? := by
  obtain ⟨ao', cap', hv, hm, hc⟩ := (Row.ofOwn h).ex
  obtain ⟨g, hg, hl, hcell⟩ := hc k xs[k] (List.getElem?_eq_getElem hk)
  simp at hv
  obtain ⟨rfl, _, rfl⟩ := hv
  exact ⟨g, hg, by rw [hcell, List.getElem?_eq_getElem hk]⟩

set_option maxRecDepth 8000 in
set_option maxHeartbeats 1600000 in
theorem held_any {B bm : Nat} {c : Cfg} {mem : List Int} {v : Value} (w : World) (hg : Good c) (hm : MapAt w B bm c) (hB : B ≤ w.heap.size) (hr : Row w v (mem.map (Value.int .u64))) (hp : 0 < mem.length) (hle : mem.length ≤ 20000) (hall : ∀ x ∈ mem, U x) :
    Calls Try.prog 18 #[.pointer (some ⟨bm, 0, none⟩), v] w fun e w' => ∃ v', e = .returned v' ∧ w'.ownsRow w.heap.size 42 1 v' (heldL c mem).length ((heldL c mem).map (Value.int .u64)) ∧ Kept w w' := by
  obtain ⟨i0, hi, hz0, hz1, hz2⟩ := info_parts info_u64
  have hmb := manyI_bound hg
  obtain ⟨N, hN⟩ : ∃ N : Nat, manyI c = N := ⟨(manyI c).toNat, by omega⟩
  have HN : Hid (manyI c = N) := hN
  have hN2 : N ≤ 4000 := by omega
  clear hN hmb
  go_enter Try.func18, Try.ntmps18
  go_wp2_with fail
  refine (new_any w hr hp hle hall).mono ?_; rintro e w1 ⟨bs, bl, rfl, hs1, hb1, hl1, hk1⟩
  have hm1 := hm.kept hk1 hB
  have hr1 := hr.kept hk1
  have hs1l := hs1.lt
  go_wp2_with fail
  refine (mPool_any bm w1).mono ?_; rintro e w2 ⟨rfl, rfl⟩
  go_wp2_with fail
  refine (mPackets_any w1 hm1).mono ?_; rintro e w2 ⟨rfl, rfl⟩
  rw [HN.out]
  go_wp2_with fail
  refine (walk_any (most := N) w1 hg hm1 (Nat.le_trans hB hk1.size) hr1 hp hle hall hN2).mono ?_; rintro e w2 ⟨vi, rfl, own2, hk2⟩
  obtain ⟨ai, ci, rfl⟩ := own_slice own2
  have HL : Hid (heldL c mem = (walkL (lnk c) mem N 4).flatMap (tasksL c mem)) := by unfold Hid heldL; rw [HN.out]; rfl
  have hLl := walkL_len (lnk c) mem N 4
  generalize walkL (lnk c) mem N 4 = L at *
  have hw2 : w1.heap.size ≤ w2.heap.size := hk2.size
  have own0 : w2.ownsRow w2.heap.size 42 1 (.slice none 0 0) 0 [] := World.ownsRow_nil _ _ _ _
  have hs2 := hs1.kept hk2
  have HK : Hid (Kept w w2) := hk1.trans' hk2
  clear hk1 hk2 hr hr1 hs1 hm1
  go_wp2_with fail
  go_loopg [6, 22] L.length (fun gk vo iv wr => ∃ (k : Nat) (n' : Int), k ≤ L.length ∧ gk = L.length - k ∧ iv = .int .i64 k ∧ wr.ownsRow w2.heap.size 42 1 vo (flatL c mem L k).length ((flatL c mem L k).map (Value.int .u64)) ∧ StoreAt wr bs bl mem n' ∧ Chg (fun i => i = bs) w2 wr)
  case atStart => exact ⟨0, 0, by omega, by omega, rfl, by simpa [flatL] using own0, hs2, Chg.refl _ _⟩
  case round =>
    obtain ⟨k, n', hk, rfl, rfl, own, hs, hc⟩ := hrel
    have hkw : Kept w wr := HK.out.trans (hc.toBelow HK.out.size (fun i hi e => by omega))
    have hmr := hm.kept hkw hB
    by_cases hlt : k < L.length
    · have HF : Hid (flatL c mem L (k + 1) = flatL c mem L k ++ tasksL c mem (L[k]?.getD 0)) := flatL_succ hlt
      have owni := ownsRow_chg own2 hc (fun g hg' e => by have := ownsRow_base own2 g hg'; omega)
      obtain ⟨gi, rfl, hci⟩ := own_cell owni (k := k) (by simpa using hlt)
      rw [List.getElem?_map, List.getElem?_eq_getElem hlt, Option.map_some] at hci
      have hpe : L[k]?.getD 0 = L[k] := by rw [List.getElem?_eq_getElem hlt]; rfl
      rw [hpe] at HF
      have hlt' : (k : Int) < L.length := by omega
      have hfl := flatL_len c mem L k
      generalize L[k] = p at *
      generalize flatL c mem L k = F at *
      clear hpe
      go_wp2_with fail
      refine (mMany_any p wr hmr hg).mono ?_; rintro e w3 ⟨rfl, rfl⟩
      go_wp2_with fail
      refine (load_any (pPack c p 0) wr hs).mono ?_; rintro e w3 ⟨rfl, hs3, hc3⟩
      have hU := mget_all hs.all (pPack c p 0)
      have hU0 : 0 ≤ mget mem (pPack c p 0) := hU.1
      obtain ⟨M, hM⟩ : ∃ M : Nat, min (mget mem (pPack c p 0)) 4 = M := ⟨(min (mget mem (pPack c p 0)) 4).toNat, by omega⟩
      have hM4 : M ≤ 4 := by omega
      have HT : Hid ((tasksL c mem p).length = M) := by unfold Hid; rw [tasksL_len]; omega
      have HT1 : Hid (∀ j, j < M → (tasksL c mem p).take (j + 1) = (tasksL c mem p).take j ++ [mget mem (pTask c p j)]) := fun j hj => tasksL_take (by omega)
      have x1 : IntKind.i64.wrap (M : Int) = M := IntWalk.i64_in _ (by omega)
      clear hU hU0
      have hc3' : Chg (fun i => i = bs) w2 w3 := hc.trans hc3
      have own3 := ownsRow_chg own hc3 (fun g hg' e => by have := ownsRow_base own g hg'; omega)
      clear hs hc hc3 own owni hci hkw hmr
      go_wp2_with fail
      go_loopg [6, 34] M (fun gj vo jv wq => ∃ (j : Nat) (n'' : Int), j ≤ M ∧ gj = M - j ∧ jv = .int .i64 j ∧ wq.ownsRow w2.heap.size 42 1 vo (F ++ (tasksL c mem p).take j).length ((F ++ (tasksL c mem p).take j).map (Value.int .u64)) ∧ StoreAt wq bs bl mem n'' ∧ Chg (fun i => i = bs) w2 wq)
      case atStart => exact ⟨0, _, by omega, by omega, rfl, by simpa using own3, hs3, hc3'⟩
      case round =>
        clear own3 hs3 hc3'
        obtain ⟨j, n'', hj, rfl, rfl, own, hs, hc⟩ := hrel
        obtain ⟨ao, co, hv⟩ := own_slice own
        subst hv
        have hkw : Kept w wr := HK.out.trans (hc.toBelow HK.out.size (fun i hi e => by omega))
        have hmr := hm.kept hkw hB
        by_cases hjm : j < M
        · have HT2 : Hid ((tasksL c mem p).take (j + 1) = (tasksL c mem p).take j ++ [mget mem (pTask c p j)]) := HT1.out j hjm
          have hjm' : (j : Int) < M := by omega
          have hll : (F ++ (tasksL c mem p).take j).length ≤ 30000 := by
            have := HT.out
            simp; omega
          have HJ : Hid ((F ++ (tasksL c mem p).take j) = (F ++ (tasksL c mem p).take j)) := rfl
          generalize hZ : (F ++ (tasksL c mem p).take j) = Z at *
          replace hZ : Hid _ := hZ
          go_wp2_with fail
          refine (mTask_any p j wr hmr hg).mono ?_; rintro e w4 ⟨rfl, rfl⟩
          go_wp2_with fail
          refine (load_any (pTask c p j) wr hs).mono ?_; rintro e w4 ⟨rfl, hs4, hc4⟩
          have own4 := ownsRow_chg own hc4 (fun g hg' e => by have := ownsRow_base own g hg'; omega)
          have hc5 : Chg (fun i => i = bs) w2 w4 := hc.trans hc4
          generalize mget mem (pTask c p j) = r at *
          have hsz4 := hc5.size
          go_wp2_with (at_builtin; refine wpList_append_lies _ rfl _ _ 34 rfl w2.heap.size 42 i0 (.int .u64 0) 1 8 Try.underlying34 hi hz0 hz1 hz2 rfl (by decide) _ _ _ rfl (own4.alloc _) ⟨w4.heap.size, 0, none⟩ 1 1 [.int .u64 r] rfl rfl ?c1 ?c2 (by omega) ?c3 ?c4 ?c5 _ rfl ?_)
          all_goals first
            | (intro j u hj; match j, hj with | 0, hj => (simp at hj; subst hj; simp [Addr.add]; done))
            | (intro u hu; simp at hu; subst hu; rfl)
            | rfl
            | (unfold maxLen; omega)
            | omega
            | (simp; done)
            | (simp; omega)
            | skip
          intro gb cp w5 own5 hgrow _ _
          have hrow : ∀ q, Value.ownBlock (.slice ao Z.length co) = some q → w2.heap.size ≤ q := fun q hq => (ownsRow_base own4 q hq).1
          have hc6 : Chg (fun i => i = bs) w2 w5 := (hc5.alloc _).grown hgrow (fun q hq hq2 => by have := hrow q hq; omega)
          have hs5 : StoreAt w5 bs bl mem (cnt n'') := hs4.chg (((Chg.refl (fun i => w2.heap.size ≤ i) w4).alloc _).grown hgrow (fun q hq _ => hrow q hq)) (by omega) (by omega)
          clear hgrow
          go_wp2_with fail
          go_roundg (M - (j + 1))
          case measure => omega
          case rel =>
            refine ⟨j + 1, _, by omega, rfl, by go_num, ?_, hs5, hc6⟩
            rw [HT2.out, ← List.append_assoc, hZ.out]
            simpa using own5
        · obtain rfl : j = M := by omega
          have HZ : Hid (F ++ (tasksL c mem p).take j = F ++ tasksL c mem p) := by unfold Hid; rw [List.take_of_length_le (by rw [HT.out]; exact Nat.le_refl _)]
          rw [HZ.out] at own
          rw [HZ.out]
          rw [← HF.out] at own
          rw [← HF.out]
          go_wp2_with fail
          go_roundg (L.length - (k + 1))
          case measure => omega
          case rel => exact ⟨k + 1, _, by omega, rfl, by go_num, own, hs, hc⟩
    · obtain rfl : k = L.length := by omega
      obtain ⟨ao, co, hv⟩ := own_slice own
      subst hv
      have hFL : flatL c mem L L.length = heldL c mem := by unfold flatL; rw [List.take_length, HL.out]
      rw [hFL] at own
      rw [hFL]
      have HH : Hid _ := hFL
      clear hFL
      go_wp2_with fail
      go_ret
      exact ⟨_, rfl, ownsRow_mono own HK.out.size, hkw⟩

end Go.Proofs.Ytchlbdfapgeebaa
