/- The tasks of the pool: walked. Chapter 11's example: walked. A marker's task that is put somewhere: the deque is full; the pool's steps: walked. A marker's task that is put somewhere: the deque is full: walked. Blocks that are owned. Nothing of one function. A marker's task that is put somewhere: any step of its machine: walked. -/
import Derived.Test.YtfbcadknimfhjaaGreatPkW
import Derived.Deep.LoopGhost
import Derived.Test.YtfbcadknimfhjaaGreatPkF
import Derived.Test.YtfbcadknimfhjaaGreatPkG
namespace Go.Proofs.YtfbcadknimfhjaaGreat
open Go.RowKit

theorem walkL_len (lf : Int → Int) (mem : List Int) (k : Nat) (p : Int) : (walkL lf mem k p).length ≤ k := by
  induction k generalizing p with
  | zero => simp [walkL]
  | succ k ih =>
    rw [walkL]
    split
    · have := ih (lf (loI (mget mem p))); simp; omega
    · simp

theorem tasksL_len (c : Cfg) (mem : List Int) (p : Int) : (tasksL c mem p).length = (min (mget mem (pPack c p 0)) 4).toNat := by simp [tasksL]

theorem flat_len (c : Cfg) (mem : List Int) (L : List Int) : (L.flatMap (tasksL c mem)).length ≤ 4 * L.length := by
  induction L with
  | nil => simp
  | cons p L ih =>
    rw [List.flatMap_cons, List.length_append, tasksL_len, List.length_cons]
    have : (min (mget mem (pPack c p 0)) 4).toNat ≤ 4 := by omega
    omega

/-- The tasks of the first k packets. -/
def flatL (c : Cfg) (mem : List Int) (L : List Int) (k : Nat) : List Int := (L.take k).flatMap (tasksL c mem)

theorem flatL_len (c : Cfg) (mem : List Int) (L : List Int) (k : Nat) : (flatL c mem L k).length ≤ 4 * L.length := by
  have := flat_len c mem (L.take k)
  have : (L.take k).length ≤ L.length := by simp; omega
  unfold flatL; omega

theorem flatL_succ {c : Cfg} {mem : List Int} {L : List Int} {k : Nat} (h : k < L.length) : flatL c mem L (k + 1) = flatL c mem L k ++ tasksL c mem (L[k]?.getD 0) := by
  unfold flatL
  rw [show L.take (k + 1) = L.take k ++ [L[k]] from by rw [List.take_add_one, List.getElem?_eq_getElem h]; rfl, List.flatMap_append, List.getElem?_eq_getElem h]
  simp only [List.flatMap_cons, List.flatMap_nil, List.append_nil, Option.getD_some]

theorem tasksL_take {c : Cfg} {mem : List Int} {p : Int} {j : Nat} (h : j < (min (mget mem (pPack c p 0)) 4).toNat) : (tasksL c mem p).take (j + 1) = (tasksL c mem p).take j ++ [mget mem (pTask c p j)] := by
  have hl : j < (tasksL c mem p).length := by rw [tasksL_len]; exact h
  rw [List.take_add_one, List.getElem?_eq_getElem hl]
  simp [tasksL]

theorem own_cell {w : World} {base : Nat} {e : TypeId} {ao : Option Addr} {cap n : Nat} {xs : List Value} (h : w.ownsRow base e 1 (.slice ao n cap) n xs) {k : Nat} (hk : k < xs.length) : ∃ g, ao = some ⟨g, 0, none⟩ ∧ w.cell? ⟨g, k, none⟩ = xs[k]? := by
  obtain ⟨ao', cap', hv, hm, hc⟩ := (Row.ofOwn h).ex
  obtain ⟨g, hg, hl, hcell⟩ := hc k xs[k] (List.getElem?_eq_getElem hk)
  simp at hv
  obtain ⟨rfl, _, rfl⟩ := hv
  exact ⟨g, hg, by rw [hcell, List.getElem?_eq_getElem hk]⟩

set_option maxRecDepth 8000 in
set_option maxHeartbeats 1600000 in
theorem held_any {B bm : Nat} {c : Cfg} {mem : List Int} {v : Value} (w : World) (hg : Good c) (hm : MapAt w B bm c) (hB : B ≤ w.heap.size) (hr : Row w v (mem.map (Value.int .u64))) (hp : 0 < mem.length) (hle : mem.length ≤ 20000) (hall : ∀ x ∈ mem, U x) :
    Calls Tryz.prog 25 #[.pointer (some ⟨bm, 0, none⟩), v] w fun e w' => ∃ v', e = .returned v' ∧ w'.ownsRow w.heap.size 25 1 v' (heldL c mem).length ((heldL c mem).map (Value.int .u64)) ∧ Kept w w' := by
  obtain ⟨i0, hi, hz0, hz1, hz2⟩ := info_parts info_u64
  have hmb := manyI_bound hg
  obtain ⟨N, hN⟩ : ∃ N : Nat, manyI c = N := ⟨(manyI c).toNat, by omega⟩
  have HN : Hid (manyI c = N) := hN
  have hN2 : N ≤ 4000 := by omega
  clear hN hmb
  go_enter Tryz.func25, Tryz.ntmps25
  go_wp2_with fail
  refine (new_any w hr hp hle hall).mono ?_; rintro e w1 ⟨bs, bl, rfl, hs1, hb1, hl1, hk1⟩
  have hm1 := hm.kept hk1 hB
  have hr1 := hr.kept hk1
  have hs1l := hs1.lt
  go_wp2_with fail
  refine (mPool_any bm w1).mono ?_; rintro e w2 ⟨rfl, rfl⟩
  go_wp2_with fail
  refine (mPackets_any w1 hm1).mono ?_; rintro e w2 ⟨rfl, rfl⟩
  rw [HN.out]
  go_wp2_with fail
  refine (walk_any (most := N) w1 hg hm1 (Nat.le_trans hB hk1.size) hr1 hp hle hall hN2).mono ?_; rintro e w2 ⟨vi, rfl, own2, hk2⟩
  obtain ⟨ai, ci, rfl⟩ := own_slice own2
  have HL : Hid (heldL c mem = (walkL (lnk c) mem N 4).flatMap (tasksL c mem)) := by unfold Hid heldL; rw [HN.out]; rfl
  have hLl := walkL_len (lnk c) mem N 4
  generalize walkL (lnk c) mem N 4 = L at *
  have hw2 : w1.heap.size ≤ w2.heap.size := hk2.size
  have own0 : w2.ownsRow w2.heap.size 25 1 (.slice none 0 0) 0 [] := World.ownsRow_nil _ _ _ _
  have hs2 := hs1.kept hk2
  have HK : Hid (Kept w w2) := hk1.trans' hk2
  clear hk1 hk2 hr hr1 hs1 hm1
  go_wp2_with fail
  go_loopg [6, 22] L.length (fun gk vo iv wr => ∃ (k : Nat) (n' : Int), k ≤ L.length ∧ gk = L.length - k ∧ iv = .int .i64 k ∧ wr.ownsRow w2.heap.size 25 1 vo (flatL c mem L k).length ((flatL c mem L k).map (Value.int .u64)) ∧ StoreAt wr bs bl mem n' ∧ Chg (fun i => i = bs) w2 wr)
  case atStart => exact ⟨0, 0, by omega, by omega, rfl, by simpa [flatL] using own0, hs2, Chg.refl _ _⟩
  case round =>
    obtain ⟨k, n', hk, rfl, rfl, own, hs, hc⟩ := hrel
    have hkw : Kept w wr := HK.out.trans (hc.toBelow HK.out.size (fun i hi e => by omega))
    have hmr := hm.kept hkw hB
    by_cases hlt : k < L.length
    · have HF : Hid (flatL c mem L (k + 1) = flatL c mem L k ++ tasksL c mem (L[k]?.getD 0)) := flatL_succ hlt
      have owni := ownsRow_chg own2 hc (fun g hg' e => by have := ownsRow_base own2 g hg'; omega)
      obtain ⟨gi, rfl, hci⟩ := own_cell owni (k := k) (by simpa using hlt)
      rw [List.getElem?_map, List.getElem?_eq_getElem hlt, Option.map_some] at hci
      have hpe : L[k]?.getD 0 = L[k] := by rw [List.getElem?_eq_getElem hlt]; rfl
      rw [hpe] at HF
      have hlt' : (k : Int) < L.length := by omega
      have hfl := flatL_len c mem L k
      generalize L[k] = p at *
      generalize flatL c mem L k = F at *
      clear hpe
      go_wp2_with fail
      refine (mMany_any p wr hmr hg).mono ?_; rintro e w3 ⟨rfl, rfl⟩
      go_wp2_with fail
      refine (load_any (pPack c p 0) wr hs).mono ?_; rintro e w3 ⟨rfl, hs3, hc3⟩
      have hU := mget_all hs.all (pPack c p 0)
      have hU0 : 0 ≤ mget mem (pPack c p 0) := hU.1
      obtain ⟨M, hM⟩ : ∃ M : Nat, min (mget mem (pPack c p 0)) 4 = M := ⟨(min (mget mem (pPack c p 0)) 4).toNat, by omega⟩
      have hM4 : M ≤ 4 := by omega
      have HT : Hid ((tasksL c mem p).length = M) := by unfold Hid; rw [tasksL_len]; omega
      have HT1 : Hid (∀ j, j < M → (tasksL c mem p).take (j + 1) = (tasksL c mem p).take j ++ [mget mem (pTask c p j)]) := fun j hj => tasksL_take (by omega)
      have x1 : IntKind.i64.wrap (M : Int) = M := IntWalk.i64_in _ (by omega)
      clear hU hU0
      have hc3' : Chg (fun i => i = bs) w2 w3 := hc.trans hc3
      have own3 := ownsRow_chg own hc3 (fun g hg' e => by have := ownsRow_base own g hg'; omega)
      clear hs hc hc3 own owni hci hkw hmr
      go_wp2_with fail
      go_loopg [6, 34] M (fun gj vo jv wq => ∃ (j : Nat) (n'' : Int), j ≤ M ∧ gj = M - j ∧ jv = .int .i64 j ∧ wq.ownsRow w2.heap.size 25 1 vo (F ++ (tasksL c mem p).take j).length ((F ++ (tasksL c mem p).take j).map (Value.int .u64)) ∧ StoreAt wq bs bl mem n'' ∧ Chg (fun i => i = bs) w2 wq)
      case atStart => exact ⟨0, _, by omega, by omega, rfl, by simpa using own3, hs3, hc3'⟩
      case round =>
        clear own3 hs3 hc3'
        obtain ⟨j, n'', hj, rfl, rfl, own, hs, hc⟩ := hrel
        obtain ⟨ao, co, hv⟩ := own_slice own
        subst hv
        have hkw : Kept w wr := HK.out.trans (hc.toBelow HK.out.size (fun i hi e => by omega))
        have hmr := hm.kept hkw hB
        by_cases hjm : j < M
        · have HT2 : Hid ((tasksL c mem p).take (j + 1) = (tasksL c mem p).take j ++ [mget mem (pTask c p j)]) := HT1.out j hjm
          have hjm' : (j : Int) < M := by omega
          have hll : (F ++ (tasksL c mem p).take j).length ≤ 30000 := by
            have := HT.out
            simp; omega
          have HJ : Hid ((F ++ (tasksL c mem p).take j) = (F ++ (tasksL c mem p).take j)) := rfl
          generalize hZ : (F ++ (tasksL c mem p).take j) = Z at *
          replace hZ : Hid _ := hZ
          go_wp2_with fail
          refine (mTask_any p j wr hmr hg).mono ?_; rintro e w4 ⟨rfl, rfl⟩
          go_wp2_with fail
          refine (load_any (pTask c p j) wr hs).mono ?_; rintro e w4 ⟨rfl, hs4, hc4⟩
          have own4 := ownsRow_chg own hc4 (fun g hg' e => by have := ownsRow_base own g hg'; omega)
          have hc5 : Chg (fun i => i = bs) w2 w4 := hc.trans hc4
          generalize mget mem (pTask c p j) = r at *
          have hsz4 := hc5.size
          go_wp2_with (at_builtin; refine wpList_append_lies _ rfl _ _ 41 rfl w2.heap.size 25 i0 (.int .u64 0) 1 8 Tryz.underlying41 hi hz0 hz1 hz2 rfl (by decide) _ _ _ rfl (own4.alloc _) ⟨w4.heap.size, 0, none⟩ 1 1 [.int .u64 r] rfl rfl ?c1 ?c2 (by omega) ?c3 ?c4 ?c5 _ rfl ?_)
          all_goals first
            | (intro j u hj; match j, hj with | 0, hj => (simp at hj; subst hj; simp [Addr.add]; done))
            | (intro u hu; simp at hu; subst hu; rfl)
            | rfl
            | (unfold maxLen; omega)
            | omega
            | (simp; done)
            | (simp; omega)
            | skip
          intro gb cp w5 own5 hgrow _ _
          have hrow : ∀ q, Value.ownBlock (.slice ao Z.length co) = some q → w2.heap.size ≤ q := fun q hq => (ownsRow_base own4 q hq).1
          have hc6 : Chg (fun i => i = bs) w2 w5 := (hc5.alloc _).grown hgrow (fun q hq hq2 => by have := hrow q hq; omega)
          have hs5 : StoreAt w5 bs bl mem (cnt n'') := hs4.chg (((Chg.refl (fun i => w2.heap.size ≤ i) w4).alloc _).grown hgrow (fun q hq _ => hrow q hq)) (by omega) (by omega)
          clear hgrow
          go_wp2_with fail
          go_roundg (M - (j + 1))
          case measure => omega
          case rel =>
            refine ⟨j + 1, _, by omega, rfl, by go_num, ?_, hs5, hc6⟩
            rw [HT2.out, ← List.append_assoc, hZ.out]
            simpa using own5
        · obtain rfl : j = M := by omega
          have HZ : Hid (F ++ (tasksL c mem p).take j = F ++ tasksL c mem p) := by unfold Hid; rw [List.take_of_length_le (by rw [HT.out]; exact Nat.le_refl _)]
          rw [HZ.out] at own
          rw [HZ.out]
          rw [← HF.out] at own
          rw [← HF.out]
          go_wp2_with fail
          go_roundg (L.length - (k + 1))
          case measure => omega
          case rel => exact ⟨k + 1, _, by omega, rfl, by go_num, own, hs, hc⟩
    · obtain rfl : k = L.length := by omega
      obtain ⟨ao, co, hv⟩ := own_slice own
      subst hv
      have hFL : flatL c mem L L.length = heldL c mem := by unfold flatL; rw [List.take_length, HL.out]
      rw [hFL] at own
      rw [hFL]
      have HH : Hid _ := hFL
      clear hFL
      go_wp2_with fail
      go_ret
      exact ⟨_, rfl, ownsRow_mono own HK.out.size, hkw⟩

end Go.Proofs.YtfbcadknimfhjaaGreat

namespace Go.Proofs.YtfbcadknimfhjaaGreat
open Go.RowKit

theorem PmAt.chg {w w' : World} {S : Nat → Prop} {b bi gt bm bs bl : Nat} {s : PM} (h : PmAt w b bi gt bm bs bl s) (k : Chg S w w') (h1 : ¬ S b) (h2 : ¬ S bi) (h3 : ¬ S gt) : PmAt w' b bi gt bm bs bl s := by
  obtain ⟨ap, hall, hlen, hrng, tv, iv, hb, ht, hin⟩ := h
  exact ⟨ap, hall, hlen, hrng, tv, iv, k.blk hb h1, ht.chg k h3, fun e => ⟨(hin e).1, (hin e).2.1.chg k h2, (hin e).2.2⟩⟩

theorem first_facts {c : Cfg} (hg : Good c) : 0 < (firstL c).length ∧ (firstL c).length ≤ 20000 ∧ (∀ x ∈ firstL c, U x) := by
  have := allI_bound hg
  have hn := nN_bound hg
  have hl : (firstL c).length = (allI c).toNat := freeTo_len c _
  exact ⟨by omega, by omega, freeTo_all hg _ (by omega)⟩

theorem Blk.row {w : World} {g : Nat} {t : TypeId} {xs : List Value} (h : Blk w g t xs) (hl : xs.length ≤ maxLen) : Row w (.slice (some ⟨g, 0, none⟩) xs.length xs.length) xs :=
  ⟨⟨some ⟨g, 0, none⟩, xs.length, rfl, hl, fun i u hu => ⟨g, rfl, h.lt, by rw [h.cell i]; exact hu⟩⟩⟩

theorem PM.packet_done {s : PM} (h : s.pc = .done) : s.packet = s.p := by unfold PM.packet; rw [h]; rfl

theorem putA_ok : PmOk putA := ⟨fun _ => ⟨rfl, by decide⟩, fun e => by cases e⟩
theorem takeA_ok : PmOk takeA := ⟨fun e => (by cases e), fun e => by cases e⟩

end Go.Proofs.YtfbcadknimfhjaaGreat

namespace Go.Proofs.YtfbcadknimfhjaaGreat
open Go.RowKit

set_option maxRecDepth 8000 in
theorem pool_any {a b bi gt bm bs bl B : Nat} {c : Cfg} {x : Int} {pd : Value} {sp : Bool} {s : PM} {mem : List Int} {n : Int} (w : World) (hg : Good c) (hA : Blk w a 94 (amL bm x pd (.pointer (some ⟨b, 0, none⟩)) sp ((APc.pool).val a))) (h : PmAt w b bi gt bm bs bl s) (hs : StoreAt w bs bl mem n) (hm : MapAt w B bm c) (hlt : gt < w.heap.size) (hok : PmOk s)
    (h3 : a ≠ b) (h4 : a ≠ bs) (h5 : a ≠ bl) (h6 : a ≠ bi) (h7 : a ≠ gt) :
    Calls Tryz.prog 74 #[.pointer (some ⟨a, 0, none⟩), .pointer (some ⟨bs, 0, none⟩)] w fun r w' => r = .returned (.tuple #[]) ∧ Blk w' a 94 (amL bm x pd (.pointer (some ⟨b, 0, none⟩)) sp (if (pmStep c mem s).2.pc.fin then .nilFunc else (APc.pool).val a)) ∧
      (∃ bi', PmAt w' b bi' gt bm bs bl (pmStep c mem s).2 ∧ (bi' = bi ∨ w.heap.size ≤ bi')) ∧ StoreAt w' bs bl (pmStep c mem s).1 (cntIf s.pc.fin n) ∧ Chg (fun k => k = a ∨ PmB b bi bs bl k) w w' := by
  have D := pstep_all w hg h hs hm hlt hok
  generalize pmStep c mem s = rr at *
  have g3 := hA.cell 3
  simp only [List.getElem?_cons_zero, List.getElem?_cons_succ] at g3
  have hal := hA.lt
  cases hf : rr.2.pc.fin
  · rw [hf] at D
    simp only [Bool.false_eq_true, if_false]
    go_enter Tryz.func74, Tryz.ntmps74
    go_wp2_with fail
    refine D.mono ?_; rintro r w2 ⟨rfl, hp2, hs2, hc2⟩
    go_wp2_with fail
    go_end0
    exact ⟨rfl, hc2.blk hA (fun e => by rcases e with e | e | e | e; exact h3 e; exact h6 e; exact h4 e; exact h5 e), hp2, hs2, hc2.mono (fun _ _ e => .inr e)⟩
  · rw [hf] at D
    simp only [if_true]
    go_enter Tryz.func74, Tryz.ntmps74
    go_wp2_with fail
    refine D.mono ?_; rintro r w2 ⟨rfl, ⟨bi', hp2, hbi⟩, hs2, hc2⟩
    have hA2 := hc2.blk hA (fun e => by rcases e with e | e | e | e; exact h3 e; exact h6 e; exact h4 e; exact h5 e)
    have f5 := hA2.free 5
    have g5 := hA2.cell 5
    simp only [List.getElem?_cons_zero, List.getElem?_cons_succ] at g5
    have HB : Hid (bi' = bi ∨ w.heap.size ≤ bi') := hbi
    clear hbi
    go_wp2_with fail
    go_end0
    have hcb : Chg (fun k => k = a) w2 (w2.setCell ⟨a, 5, none⟩ .nilFunc) := (Chg.refl (fun k => k = a) w2).setCell ⟨a, 5, none⟩ _ (fun _ => rfl)
    exact ⟨rfl, hA2.set' 5 _ rfl, ⟨bi', hp2.chg hcb (by show ¬ b = a; omega) (by show ¬ bi' = a; have := HB.out; omega) (by show ¬ gt = a; omega), HB.out⟩, hs2.chg hcb (by show ¬ bs = a; omega) (by show ¬ bl = a; omega), (hc2.mono (T := fun k => k = a ∨ PmB b bi bs bl k) (fun _ _ e => .inr e)).trans (hcb.mono (fun _ _ e => .inl e))⟩

end Go.Proofs.YtfbcadknimfhjaaGreat

namespace Go.Proofs.YtfbcadknimfhjaaGreat
open Go.RowKit

set_option maxRecDepth 8000 in
set_option maxHeartbeats 1600000 in
theorem own_full {a b q1 q2 bm bs bl B : Nat} {c : Cfg} {x : Int} {pp : Value} {e : DEnds} {d : DQ} {mem : List Int} {n : Int} (w : World) (hm : MapAt w B bm c) (hB : B ≤ w.heap.size) (hBb : B ≤ b) (hBa : B ≤ a) (hBs : B ≤ bs) (hBl : B ≤ bl) (hx : U x) (hA : Blk w a 94 (amL bm x (.pointer (some ⟨b, 0, none⟩)) pp false ((APc.own).val a))) (hd : DqAt w b q1 q2 e d) (hs : StoreAt w bs bl mem n)
    (h1 : b ≠ bs) (h2 : b ≠ bl) (h3 : a ≠ b) (h4 : a ≠ bs) (h5 : a ≠ bl) (hp : d.pc.fin = false) (hf : (dqStep e mem d).2.pc = .done) (ho : (dqStep e mem d).2.out = 2) :
    Calls Tryz.prog 44 #[.pointer (some ⟨a, 0, none⟩), .pointer (some ⟨bs, 0, none⟩)] w fun r w' => r = .returned (.tuple #[]) ∧ ∃ pb pbi pgt, Blk w' a 94 (amL bm x (.pointer (some ⟨b, 0, none⟩)) (.pointer (some ⟨pb, 0, none⟩)) true ((APc.pool).val a)) ∧
      PmAt w' pb pbi pgt bm bs bl ⟨.spare, [x], 0, 0, ⟨.popHead, 5, 0, 0, 0⟩⟩ ∧ w.heap.size ≤ pb ∧ w.heap.size ≤ pbi ∧ w.heap.size ≤ pgt ∧ pgt < w'.heap.size ∧ StoreAt w' bs bl (dqStep e mem d).1 (cnt n) ∧ Chg (AmB a b bs bl) w w' := by
  have D := dstep_any w hd hs h1 h2 hp
  rw [show (dqStep e mem d).2.pc.fin = true from by rw [hf]; rfl] at D
  generalize dqStep e mem d = rr at *
  have hob : (rr.2.out == 2) = true := by simpa using ho
  have HF : Hid (rr.2.pc = .done) := hf
  have HO : Hid (rr.2.out = 2) := ho
  have g2 := hA.cell 2
  simp only [List.getElem?_cons_zero, List.getElem?_cons_succ] at g2
  clear hf ho
  go_enter Tryz.func44, Tryz.ntmps44
  go_wp2_with fail
  refine D.mono ?_; rintro r w2 ⟨rfl, hd2, hs2, hc2⟩
  have hA2 := hc2.blk hA (fun e => by rcases e with e | e | e; exact h3 e; exact h4 e; exact h5 e)
  have hm2 : MapAt w2 B bm c := hm.below (hc2.toBelow hB (fun i hi e => by rcases e with e | e | e <;> omega)) (Nat.le_refl _)
  have f5 := hA2.free 5
  have g5 := hA2.cell 5
  have q2' := hA2.cell 2
  simp only [List.getElem?_cons_zero, List.getElem?_cons_succ] at g5 q2'
  go_wp2_with fail
  have hcb : Chg (fun k => k = a) w2 (w2.setCell ⟨a, 5, none⟩ .nilFunc) := (Chg.refl (fun k => k = a) w2).setCell ⟨a, 5, none⟩ _ (fun _ => rfl)
  have hA3 := hA2.set' 5 .nilFunc (l' := amL bm x (.pointer (some ⟨b, 0, none⟩)) pp false .nilFunc) rfl
  have hd3 := hd2.chgB hcb (by show ¬ b = a; omega) (by rw [HF.out]; rfl)
  have hs3 := hs2.chg hcb (by show ¬ bs = a; omega) (by show ¬ bl = a; omega)
  have hm3 : MapAt (w2.setCell ⟨a, 5, none⟩ .nilFunc) B bm c := hm2.below (hcb.toBelow (Nat.le_trans hB hc2.size) (fun i hi e => by omega)) (Nat.le_refl _)
  have hc3 := (hc2.mono (T := AmB a b bs bl) (fun _ _ e => .inr e)).trans (hcb.mono (fun _ _ e => .inl e))
  generalize w2.setCell ⟨a, 5, none⟩ .nilFunc = w3 at *
  clear f5 g5 q2'
  have q2' := hA3.cell 2
  simp only [List.getElem?_cons_zero, List.getElem?_cons_succ] at q2'
  go_wp2_with fail
  refine (dresult_any w3 hd3 HF.out).mono ?_; rintro r w4 ⟨rfl, hk4⟩
  rw [HO.out]
  have hA4 := hk4.blk hA3
  have hs4 := hs3.kept hk4
  have hm4 := hm3.kept hk4 (Nat.le_trans hB hc3.size)
  have hc4 : Chg (AmB a b bs bl) w w4 := hc3.trans (Chg.ofBelow hk4)
  have f4 := hA4.free 4
  have g4 := hA4.cell 4
  simp only [List.getElem?_cons_zero, List.getElem?_cons_succ] at g4
  go_wp2_with fail
  have hcd : Chg (fun k => k = a) w4 (w4.setCell ⟨a, 4, none⟩ (.bool true)) := (Chg.refl (fun k => k = a) w4).setCell ⟨a, 4, none⟩ _ (fun _ => rfl)
  have hA5 := hA4.set' 4 (.bool true) (l' := amL bm x (.pointer (some ⟨b, 0, none⟩)) pp true .nilFunc) rfl
  have hs5 := hs4.chg hcd (by show ¬ bs = a; omega) (by show ¬ bl = a; omega)
  have hm5 : MapAt (w4.setCell ⟨a, 4, none⟩ (.bool true)) B bm c := hm4.below (hcd.toBelow (Nat.le_trans hB hc4.size) (fun i hi e => by omega)) (Nat.le_refl _)
  have hc5 : Chg (AmB a b bs bl) w (w4.setCell ⟨a, 4, none⟩ (.bool true)) := hc4.trans (hcd.mono (fun _ _ e => .inl e))
  generalize w4.setCell ⟨a, 4, none⟩ (.bool true) = w5 at *
  clear f4 g4
  have k0 := hA5.cell 0
  have k1 := hA5.cell 1
  have hAa : Blk (w5.drew.alloc (.cells #[.int .u64 x] 25)) a _ _ := hA5.drew.alloc _
  have l0 := hAa.cell 0
  have l1 := hAa.cell 1
  simp only [List.getElem?_cons_zero, List.getElem?_cons_succ] at k0 k1 l0 l1
  have hka : Kept w5 (w5.drew.alloc (.cells #[.int .u64 x] 25)) := ((Below.refl _ _).drew).alloc (Nat.le_refl _) _
  have hbx : Blk (w5.drew.alloc (.cells #[.int .u64 x] 25)) w5.heap.size 25 [.int .u64 x] := Blk.new w5.drew _ _
  have hcx : ∀ i u, (([x] : List Int).map (Value.int .u64))[i]? = some u → (w5.drew.alloc (.cells #[.int .u64 x] 25)).cell? ((⟨w5.heap.size, 0, none⟩ : Addr).add i) = some u := fun i u hu => by
    rw [show (⟨w5.heap.size, 0, none⟩ : Addr).add i = ⟨w5.heap.size, i, none⟩ from by unfold Addr.add; split <;> simp_all, hbx.cell i]; exact hu
  have P := packPut_any (ts := [x]) (cap := 1) (ad := ⟨w5.heap.size, 0, none⟩) (w5.drew.alloc (.cells #[.int .u64 x] 25)) (hs5.kept hka) (hm5.kept hka (Nat.le_trans hB hc5.size)) (by simp) hcx hbx.lt (by intro y hy; simp at hy; subst hy; exact hx) (by simp) (by simp)
  clear hcx
  go_region_held3 (fun w' => w'.cell? ⟨a, 0, none⟩ = some (.pointer (some ⟨bm, 0, none⟩)) ∧ w'.cell? ⟨a, 1, none⟩ = some (.int .u64 x))
    (first | exact ⟨k0, k1⟩ | exact ⟨l0, l1⟩ | exact ⟨m0, m1⟩ | exact ⟨keepCell m0 (by simp), keepCell m1 (by simp)⟩)
    (first
     | (go_at_call 73; refine P.mono ?_; rintro r w6 ⟨pb, pbi, pgt, rfl, hp6, z1, z2, z3, z4, hk6⟩
        have hA6 := hk6.blk hAa
        have m0 := hA6.cell 0
        have m1 := hA6.cell 1
        have m3 := hA6.cell 3
        have fm3 := hA6.free 3
        have m5 := hA6.cell 5
        have fm5 := hA6.free 5
        simp only [List.getElem?_cons_zero, List.getElem?_cons_succ] at m0 m1 m3 m5))
  all_goals go_wp2_with fail
  all_goals go_end0
  all_goals
    have z5 := hc5.size
    have zl := hA.lt
    have zs := hs.lt
    have za := hka.size
    have hce : Chg (fun k => k = a) w6 ((w6.setCell ⟨a, 3, none⟩ (.pointer (some ⟨pb, 0, none⟩))).setCell ⟨a, 5, none⟩ ((APc.pool).val a)) := ((Chg.refl (fun k => k = a) w6).setCell ⟨a, 3, none⟩ _ (fun _ => rfl)).setCell ⟨a, 5, none⟩ _ (fun _ => rfl)
    have hc6 : Chg (AmB a b bs bl) w w6 := hc5.trans ((Chg.ofBelow hka).trans (Chg.ofBelow hk6))
    have hs6 := (hs5.kept hka).kept hk6
    refine ⟨rfl, pb, pbi, pgt, (hA6.set' 3 _ rfl).set' 5 _ rfl, hp6.chg hce (by show ¬ pb = a; omega) (by show ¬ pbi = a; omega) (by show ¬ pgt = a; omega), by omega, by omega, by omega, ?_, hs6.chg hce (by show ¬ bs = a; omega) (by show ¬ bl = a; omega), hc6.trans (hce.mono (fun _ _ e => .inl e))⟩
    exact Nat.lt_of_lt_of_le z4 hce.size

end Go.Proofs.YtfbcadknimfhjaaGreat

namespace Go.Proofs.YtfbcadknimfhjaaGreat
open Go.RowKit

/-- The blocks that are owned after a step: those owned ahead, and new ones. -/
def Grow (O : Nat → Prop) (w w' : World) : Nat → Prop := fun k => O k ∨ (w.heap.size ≤ k ∧ k < w'.heap.size)

/-- Owned blocks, and memory's. -/
abbrev OwnB (O : Nat → Prop) (bs bl : Nat) : Nat → Prop := fun k => O k ∨ k = bs ∨ k = bl

/-- New blocks. -/
def NewB (w w' : World) : Nat → Prop := fun k => w.heap.size ≤ k ∧ k < w'.heap.size

theorem Chg.grow {O : Nat → Prop} {bs bl : Nat} {w w1 w2 : World} (h : Chg (OwnB O bs bl) w w1) (k : Chg (OwnB (Grow O w w1) bs bl) w1 w2) : Chg (OwnB O bs bl) w w2 :=
  h.thenNew k (fun i hi e => by
    rcases e with (e | e) | e
    · exact .inl e
    · omega
    · exact .inr e)

theorem Grow.trans {O : Nat → Prop} {w w1 w2 : World} (h : w.heap.size ≤ w1.heap.size) (h2 : w1.heap.size ≤ w2.heap.size) (k : Nat) : Grow (Grow O w w1) w1 w2 k ↔ Grow O w w2 k := by
  constructor
  · rintro ((e | e) | e)
    · exact .inl e
    · exact .inr ⟨e.1, by omega⟩
    · exact .inr ⟨by omega, e.2⟩
  · rintro (e | e)
    · exact .inl (.inl e)
    · by_cases hk : k < w1.heap.size
      · exact .inl (.inr ⟨e.1, hk⟩)
      · exact .inr ⟨by omega, e.2⟩

theorem Grow.eq {O : Nat → Prop} {w w1 w2 : World} (h : w.heap.size ≤ w1.heap.size) (h2 : w1.heap.size ≤ w2.heap.size) : Grow (Grow O w w1) w1 w2 = Grow O w w2 :=
  funext fun k => propext (Grow.trans h h2 k)

theorem Grow.self (O : Nat → Prop) (w : World) : Grow O w w = O := by
  funext k; apply propext; unfold Grow
  constructor
  · rintro (e | e)
    · exact e
    · omega
  · exact .inl

theorem grow_ok {O : Nat → Prop} {w w' : World} {bs bl : Nat} (h : ∀ k, O k → k < w.heap.size ∧ k ≠ bs ∧ k ≠ bl) (hz : w.heap.size ≤ w'.heap.size) (hs : bs < w.heap.size) (hl : bl < w.heap.size) : ∀ k, Grow O w w' k → k < w'.heap.size ∧ k ≠ bs ∧ k ≠ bl := by
  rintro k (e | ⟨e1, e2⟩)
  · exact ⟨Nat.lt_of_lt_of_le (h k e).1 hz, (h k e).2⟩
  · exact ⟨e2, by omega, by omega⟩

theorem PmAt.home {w : World} {b bi bi' gt bm bs bl : Nat} {s : PM} (h : PmAt w b bi' gt bm bs bl s) (h1 : b ≠ bi ∧ bi ≠ bs ∧ bi ≠ bl ∧ gt ≠ bi) : ∃ b2, PmAt w b b2 gt bm bs bl s ∧ (b2 = bi ∨ (b2 = bi' ∧ bi' < w.heap.size)) := by
  by_cases hin : s.pc.inner
  · refine ⟨bi', h, .inr ⟨rfl, ?_⟩⟩
    obtain ⟨_, _, _, _, hi⟩ := h.ex
    obtain ⟨_, ⟨_, _, hq⟩, _⟩ := hi hin
    exact hq.lt
  · obtain ⟨⟨a1, a2, a3, a4, a5, a6, a7, a8, a9⟩, hall, hlen, hrng, tv, iv, hb, ht, hi⟩ := h
    exact ⟨bi, ⟨⟨h1.1, a2, a3, h1.2.1, h1.2.2.1, a6, h1.2.2.2, a8, a9⟩, hall, hlen, hrng, tv, iv, hb, ht, fun e => absurd e hin⟩, .inl rfl⟩

theorem Chg.ownBelow {O : Nat → Prop} {bs bl B : Nat} {w w' : World} (h : Chg (OwnB O bs bl) w w') (hB : B ≤ w.heap.size) (hO : ∀ k, O k → B ≤ k) (hs : B ≤ bs) (hl : B ≤ bl) : Below B w w' :=
  h.toBelow hB (fun q hq e => by rcases e with e | e | e; have := hO q e; omega; omega; omega)

theorem NewB.ge {w w' : World} {B : Nat} (h : B ≤ w.heap.size) : ∀ k, NewB w w' k → B ≤ k := fun _ hk => Nat.le_trans h hk.1

theorem below_blk {B : Nat} {w w' : World} (h : Below B w w') {b t l} (hb : Blk w b t l) (hl : b < B) : Blk w' b t l := by
  unfold Blk; rw [h.block b hl]; exact hb

theorem below_drewN {B : Nat} {w w' : World} (h : Below B w w') (k : Nat) : Below B w (w'.drewN k) := ⟨h.os, h.tape, h.output, h.size, h.block⟩

theorem wrap_small {x : Int} (h0 : 0 ≤ x) (h1 : x ≤ 100000) : IntKind.i64.wrap x = x := IntWalk.i64_in _ (by omega)

end Go.Proofs.YtfbcadknimfhjaaGreat

namespace Go.Proofs.YtfbcadknimfhjaaGreat
open Go.RowKit

theorem DqAt.chg {w w' : World} {S : Nat → Prop} {b q1 q2 : Nat} {e : DEnds} {d : DQ} (h : DqAt w b q1 q2 e d) (k : Chg S w w') (h1 : ¬ S b) (h2 : ¬ S q1) (h3 : ¬ S q2) : DqAt w' b q1 q2 e d :=
  ⟨h.ap, h.ok, h.eok, k.blk h.blk h1, fun f e => ⟨k.blk (h.box f e).1 h2, k.blk (h.box f e).2 h3⟩⟩

def APc.fin : APc → Bool
  | .done => true
  | _ => false

/-- Add's machine stands at block a; it owns O. -/
structure AmAt (w : World) (a bm bs bl : Nat) (c : Cfg) (i : Int) (s : AM) (O : Nat → Prop) : Prop where
  ux : U s.task
  own : ∀ k, O k → k < w.heap.size ∧ k ≠ bs ∧ k ≠ bl
  ain : O a
  ex : ∃ pd pp, Blk w a 94 (amL bm s.task pd pp s.spilled (s.pc.val a)) ∧
    (s.pc = .own → s.spilled = false ∧ s.dq.pc.fin = false ∧ ∃ b q1 q2, pd = .pointer (some ⟨b, 0, none⟩) ∧ DqAt w b q1 q2 (endsOf c i) s.dq ∧ O b ∧ O q1 ∧ O q2 ∧ a ≠ b ∧ a ≠ q1 ∧ a ≠ q2) ∧
    (s.pc = .pool → s.put.pc.fin = false ∧ PmOk s.put ∧ ∃ b bi gt, pp = .pointer (some ⟨b, 0, none⟩) ∧ PmAt w b bi gt bm bs bl s.put ∧ O b ∧ O bi ∧ O gt ∧ a ≠ b ∧ a ≠ bi ∧ a ≠ gt)

theorem AmAt.chg {w w' : World} {S : Nat → Prop} {a bm bs bl : Nat} {c : Cfg} {i : Int} {s : AM} {O : Nat → Prop} (h : AmAt w a bm bs bl c i s O) (k : Chg S w w') (hS : ∀ q, O q → ¬ S q) : AmAt w' a bm bs bl c i s O := by
  obtain ⟨ux, own, ain, pd, pp, hA, h1, h2⟩ := h
  refine ⟨ux, fun q hq => ⟨Nat.lt_of_lt_of_le (own q hq).1 k.size, (own q hq).2⟩, ain, pd, pp, k.blk hA (hS _ ain), fun e => ?_, fun e => ?_⟩
  · obtain ⟨x1, x2, b, q1, q2, rfl, hd, o1, o2, o3, n⟩ := h1 e
    exact ⟨x1, x2, b, q1, q2, rfl, hd.chg k (hS _ o1) (hS _ o2) (hS _ o3), o1, o2, o3, n⟩
  · obtain ⟨x1, x2, b, bi, gt, rfl, hp, o1, o2, o3, n⟩ := h2 e
    exact ⟨x1, x2, b, bi, gt, rfl, hp.chg k (hS _ o1) (hS _ o2) (hS _ o3), o1, o2, o3, n⟩

theorem AmAt.more {w : World} {a bm bs bl : Nat} {c : Cfg} {i : Int} {s : AM} {O O' : Nat → Prop} (h : AmAt w a bm bs bl c i s O) (hO : ∀ k, O k → O' k) (hO' : ∀ k, O' k → k < w.heap.size ∧ k ≠ bs ∧ k ≠ bl) : AmAt w a bm bs bl c i s O' := by
  obtain ⟨ux, own, ain, pd, pp, hA, h1, h2⟩ := h
  refine ⟨ux, hO', hO _ ain, pd, pp, hA, fun e => ?_, fun e => ?_⟩
  · obtain ⟨x1, x2, b, q1, q2, rfl, hd, o1, o2, o3, n⟩ := h1 e
    exact ⟨x1, x2, b, q1, q2, rfl, hd, hO _ o1, hO _ o2, hO _ o3, n⟩
  · obtain ⟨x1, x2, b, bi, gt, rfl, hp, o1, o2, o3, n⟩ := h2 e
    exact ⟨x1, x2, b, bi, gt, rfl, hp, hO _ o1, hO _ o2, hO _ o3, n⟩

/-- A put of one task. -/
abbrev putOne (x : Int) : PM := ⟨.spare, [x], 0, 0, ⟨.popHead, 5, 0, 0, 0⟩⟩

theorem putOne_ok (x : Int) : PmOk (putOne x) := ⟨fun _ => ⟨rfl, Nat.zero_lt_one⟩, fun e => by cases e⟩

/-- One step of add's machine. -/
def amStep (c : Cfg) (i : Int) (mem : List Int) (s : AM) : List Int × AM :=
  match s.pc with
  | .done => (mem, s)
  | .own => ((dqStep (endsOf c i) mem s.dq).1,
      if (dqStep (endsOf c i) mem s.dq).2.pc.fin then
        (if (dqStep (endsOf c i) mem s.dq).2.out = 2 then ⟨.pool, s.task, (dqStep (endsOf c i) mem s.dq).2, putOne s.task, true⟩ else ⟨.done, s.task, (dqStep (endsOf c i) mem s.dq).2, s.put, s.spilled⟩)
      else ⟨.own, s.task, (dqStep (endsOf c i) mem s.dq).2, s.put, s.spilled⟩)
  | .pool => ((pmStep c mem s.put).1, ⟨if (pmStep c mem s.put).2.pc.fin then .done else .pool, s.task, s.dq, (pmStep c mem s.put).2, s.spilled⟩)

theorem dfin_iff {q : DPc} : q.fin = true ↔ q = .done := by cases q <;> simp [DPc.fin]

theorem aown_does {a bm bs bl B : Nat} {c : Cfg} {i : Int} {s : AM} {O : Nat → Prop} {mem : List Int} {n : Int} (w : World) (h : AmAt w a bm bs bl c i s O) (hs : StoreAt w bs bl mem n) (hm : MapAt w B bm c) (hB : B ≤ w.heap.size) (hO : ∀ k, O k → B ≤ k) (hBs : B ≤ bs) (hBl : B ≤ bl) (hp : s.pc = .own) :
    Calls Tryz.prog 44 #[.pointer (some ⟨a, 0, none⟩), .pointer (some ⟨bs, 0, none⟩)] w fun r w' => r = .returned (.tuple #[]) ∧ AmAt w' a bm bs bl c i (amStep c i mem s).2 (Grow O w w') ∧ StoreAt w' bs bl (amStep c i mem s).1 (cnt n) ∧ Chg (OwnB O bs bl) w w' := by
  obtain ⟨pc, task, dq, put, sp⟩ := s
  obtain ⟨ux, own, ain, pd, pp, hA, ho, _⟩ := h
  simp only at hp hA ho ux
  subst hp
  obtain ⟨rfl, hdf, b, q1, q2, rfl, hd, ob, oq1, oq2, n1, n2, n3⟩ := ho rfl
  have ob' := own b ob
  have oa' := own a ain
  have oq1' := own q1 oq1
  have oq2' := own q2 oq2
  obtain ⟨ls, ll⟩ := hs.lt
  have hcm : ∀ k, AmB a b bs bl k → OwnB O bs bl k := by
    rintro k (rfl | rfl | rfl | rfl)
    · exact .inl ain
    · exact .inl ob
    · exact .inr (.inl rfl)
    · exact .inr (.inr rfl)
  simp only [amStep]
  cases hf : (dqStep (endsOf c i) mem dq).2.pc.fin
  · simp only [Bool.false_eq_true, if_false]
    refine (own_more w hA hd hs ob'.2.1 ob'.2.2 n1 oa'.2.1 oa'.2.2 hdf hf).mono ?_
    rintro r w' ⟨rfl, hA', hd', hs', hc'⟩
    exact ⟨rfl, ⟨ux, grow_ok own hc'.size ls ll, .inl ain, _, _, hA', fun _ => ⟨rfl, hf, b, q1, q2, rfl, hd', .inl ob, .inl oq1, .inl oq2, n1, n2, n3⟩, fun e => by cases e⟩, hs', hc'.mono (fun k _ e => hcm k e)⟩
  · simp only [if_true]
    by_cases ho2 : (dqStep (endsOf c i) mem dq).2.out = 2
    · simp only [if_pos ho2]
      refine (own_full w hm hB (hO b ob) (hO a ain) hBs hBl ux hA hd hs ob'.2.1 ob'.2.2 n1 oa'.2.1 oa'.2.2 hdf (dfin_iff.1 hf) ho2).mono ?_
      rintro r w' ⟨rfl, pb, pbi, pgt, hA', hp', z1, z2, z3, z4, hs', hc'⟩
      have z5 : pb < w'.heap.size := by obtain ⟨_, _, hbb, _⟩ := hp'.ex; exact hbb.lt
      have z6 : pbi < w'.heap.size := by obtain ⟨_, _, _, _, hin⟩ := hp'.ex; obtain ⟨_, ⟨_, _, hq⟩, _⟩ := hin trivial; exact hq.lt
      exact ⟨rfl, ⟨ux, grow_ok own hc'.size ls ll, .inl ain, _, _, hA', fun e => (by cases e), fun _ => ⟨rfl, putOne_ok _, pb, pbi, pgt, rfl, hp', .inr ⟨z1, z5⟩, .inr ⟨z2, z6⟩, .inr ⟨z3, z4⟩, by omega, by omega, by omega⟩⟩, hs', hc'.mono (fun k _ e => hcm k e)⟩
    · simp only [if_neg ho2]
      refine (own_done w hA hd hs ob'.2.1 ob'.2.2 n1 oa'.2.1 oa'.2.2 hdf (dfin_iff.1 hf) ho2).mono ?_
      rintro r w' ⟨rfl, hA', hd', hs', hc'⟩
      exact ⟨rfl, ⟨ux, grow_ok own hc'.size ls ll, .inl ain, _, _, hA', fun e => (by cases e), fun e => by cases e⟩, hs', hc'.mono (fun k _ e => hcm k e)⟩

theorem apool_does {a bm bs bl B : Nat} {c : Cfg} {i : Int} {s : AM} {O : Nat → Prop} {mem : List Int} {n : Int} (w : World) (hg : Good c) (h : AmAt w a bm bs bl c i s O) (hs : StoreAt w bs bl mem n) (hm : MapAt w B bm c) (hp : s.pc = .pool) :
    Calls Tryz.prog 74 #[.pointer (some ⟨a, 0, none⟩), .pointer (some ⟨bs, 0, none⟩)] w fun r w' => r = .returned (.tuple #[]) ∧ AmAt w' a bm bs bl c i (amStep c i mem s).2 (Grow O w w') ∧ StoreAt w' bs bl (amStep c i mem s).1 (cnt n) ∧ Chg (OwnB O bs bl) w w' := by
  obtain ⟨pc, task, dq, put, sp⟩ := s
  obtain ⟨ux, own, ain, pd, pp, hA, _, ho⟩ := h
  simp only at hp hA ho ux
  subst hp
  obtain ⟨hpf, hok, b, bi, gt, rfl, hpm, ob, obi, ogt, n1, n2, n3⟩ := ho rfl
  have ob' := own b ob
  have oa' := own a ain
  have obi' := own bi obi
  have ogt' := own gt ogt
  obtain ⟨ls, ll⟩ := hs.lt
  have hcm : ∀ k, (k = a ∨ PmB b bi bs bl k) → OwnB O bs bl k := by
    rintro k (rfl | rfl | rfl | rfl | rfl)
    · exact .inl ain
    · exact .inl ob
    · exact .inl obi
    · exact .inr (.inl rfl)
    · exact .inr (.inr rfl)
  simp only [amStep]
  have hap := hpm.ap
  refine (pool_any w hg hA hpm hs hm ogt'.1 hok n1 oa'.2.1 oa'.2.2 n2 n3).mono ?_
  rintro r w' ⟨rfl, hA', ⟨bi', hp', hbi⟩, hs', hc'⟩
  rw [hpf] at hs'
  obtain ⟨b2, hp2, hb2⟩ := hp'.home (bi := bi) ⟨hap.1, hap.2.2.2.1, hap.2.2.2.2.1, hap.2.2.2.2.2.2.1⟩
  have hok' := pmStep_ok (c := c) (mem := mem) hok
  have hG : Grow O w w' b2 := by
    rcases hb2 with rfl | ⟨rfl, hlt⟩
    · exact .inl obi
    · rcases hbi with rfl | hbi
      · exact .inl obi
      · exact .inr ⟨hbi, hlt⟩
  have hn2 : a ≠ b2 := by
    rcases hb2 with rfl | ⟨rfl, hlt⟩
    · exact n2
    · rcases hbi with rfl | hbi
      · exact n2
      · have := oa'.1; omega
  cases hf : (pmStep c mem put).2.pc.fin
  · rw [hf] at hA'
    simp only [Bool.false_eq_true, if_false] at hA' ⊢
    exact ⟨by first | rfl | trivial, ⟨ux, grow_ok own hc'.size ls ll, .inl ain, _, _, hA', fun e => (by cases e), fun _ => ⟨hf, hok', b, b2, gt, rfl, hp2, .inl ob, hG, .inl ogt, n1, hn2, n3⟩⟩, hs', hc'.mono (fun k _ e => hcm k e)⟩
  · rw [hf] at hA'
    simp only [if_true] at hA' ⊢
    exact ⟨by first | rfl | trivial, ⟨ux, grow_ok own hc'.size ls ll, .inl ain, _, _, hA', fun e => (by cases e), fun e => by cases e⟩, hs', hc'.mono (fun k _ e => hcm k e)⟩

theorem aval_func {q : APc} (a : Nat) (h : q.fin = false) : ∃ f : FuncId, q.val a = .func (.func f) #[.pointer (some ⟨a, 0, none⟩)] #[] := by
  cases q
  · cases h
  all_goals exact ⟨_, rfl⟩

theorem aval_done {q : APc} (a : Nat) (h : q.fin = true) : q.val a = .nilFunc := by
  cases q
  · rfl
  all_goals cases h

set_option maxRecDepth 8000 in
/-- Any step of add's machine. -/
theorem astep_any {a bm bs bl B : Nat} {c : Cfg} {i : Int} {s : AM} {O : Nat → Prop} {mem : List Int} {n : Int} (w : World) (hg : Good c) (h : AmAt w a bm bs bl c i s O) (hs : StoreAt w bs bl mem n) (hm : MapAt w B bm c) (hB : B ≤ w.heap.size) (hO : ∀ k, O k → B ≤ k) (hBs : B ≤ bs) (hBl : B ≤ bl) :
    Calls Tryz.prog 16 #[.pointer (some ⟨a, 0, none⟩), .pointer (some ⟨bs, 0, none⟩)] w fun r w' => r = .returned (.bool (amStep c i mem s).2.pc.fin) ∧ AmAt w' a bm bs bl c i (amStep c i mem s).2 (Grow O w w') ∧ StoreAt w' bs bl (amStep c i mem s).1 (cntIf s.pc.fin n) ∧ Chg (OwnB O bs bl) w w' := by
  obtain ⟨pd, pp, hA, _⟩ := h.ex
  have g5 := hA.cell 5
  simp only [List.getElem?_cons_zero, List.getElem?_cons_succ] at g5
  have hn0 := func_eql0
  have hn1 := func_eql
  cases hq : s.pc
  case done =>
    have hst : amStep c i mem s = (mem, s) := by unfold amStep; rw [hq]
    rw [hst]
    rw [hq] at g5
    simp only [APc.val] at g5
    have hfin : s.pc.fin = true := by rw [hq]; rfl
    have H : Hid (AmAt w a bm bs bl c i s O) := h
    clear h hst
    go_enter Tryz.func16, Tryz.ntmps16
    go_wp2_with fail
    go_ret
    exact ⟨ret_bool hfin.symm, by rw [Grow.self]; exact H.out, hs, Chg.refl _ _⟩
  case own =>
    have D := aown_does w h hs hm hB hO hBs hBl hq
    rw [hq] at g5
    simp only [APc.val] at g5
    generalize amStep c i mem s = rr at *
    clear h
    go_enter Tryz.func16, Tryz.ntmps16
    go_wp2_with fail
    refine D.mono ?_; rintro r w2 ⟨rfl, hd2, hs2, hc2⟩
    obtain ⟨_, _, hA2, _⟩ := hd2.ex
    have k5 := hA2.cell 5
    simp only [List.getElem?_cons_zero, List.getElem?_cons_succ] at k5
    have H : Hid (AmAt w2 a bm bs bl c i rr.2 (Grow O w w2)) := hd2
    clear hd2
    cases hf : rr.2.pc.fin
    · obtain ⟨f, hv⟩ := aval_func a hf
      rw [hv] at k5
      go_wp2_with fail
      go_ret
      exact ⟨ret_bool hf.symm, H.out, hs2, hc2⟩
    · rw [aval_done a hf] at k5
      go_wp2_with fail
      go_ret
      exact ⟨ret_bool hf.symm, H.out, hs2, hc2⟩
  case pool =>
    have D := apool_does w hg h hs hm hq
    rw [hq] at g5
    simp only [APc.val] at g5
    generalize amStep c i mem s = rr at *
    clear h
    go_enter Tryz.func16, Tryz.ntmps16
    go_wp2_with fail
    refine D.mono ?_; rintro r w2 ⟨rfl, hd2, hs2, hc2⟩
    obtain ⟨_, _, hA2, _⟩ := hd2.ex
    have k5 := hA2.cell 5
    simp only [List.getElem?_cons_zero, List.getElem?_cons_succ] at k5
    have H : Hid (AmAt w2 a bm bs bl c i rr.2 (Grow O w w2)) := hd2
    clear hd2
    cases hf : rr.2.pc.fin
    · obtain ⟨f, hv⟩ := aval_func a hf
      rw [hv] at k5
      go_wp2_with fail
      go_ret
      exact ⟨ret_bool hf.symm, H.out, hs2, hc2⟩
    · rw [aval_done a hf] at k5
      go_wp2_with fail
      go_ret
      exact ⟨ret_bool hf.symm, H.out, hs2, hc2⟩

theorem aspilled_any {a bm bs bl : Nat} {c : Cfg} {i : Int} {s : AM} {O : Nat → Prop} (w : World) (h : AmAt w a bm bs bl c i s O) :
    Calls Tryz.prog 18 #[.pointer (some ⟨a, 0, none⟩)] w fun r w' => r = .returned (.bool s.spilled) ∧ w = w' := by
  obtain ⟨pd, pp, hb, _⟩ := h.ex
  have g4 := hb.cell 4
  simp only [List.getElem?_cons_zero, List.getElem?_cons_succ] at g4
  clear h
  cases hsp : s.spilled <;> rw [hsp] at g4
  · go_enter Tryz.func18, Tryz.ntmps18
    go_wp2_with fail
    go_ret
    exact ⟨rfl, rfl⟩
  · go_enter Tryz.func18, Tryz.ntmps18
    go_wp2_with fail
    go_ret
    exact ⟨rfl, rfl⟩

/-- A machine of a task that is put somewhere. -/
def newAM (c : Cfg) (i x : Int) : AM := ⟨if 0 ≤ i ∧ i < c.mks then .own else .done, x, ⟨.pushBottom, 0, 0, x, 0, false⟩, putOne x, false⟩

theorem ends_ok {c : Cfg} (hg : Good c) (i : Int) : (endsOf c i).ok := by
  have hd := dqs_bound hg
  have h1 : 1 ≤ c.mks ∧ c.mks ≤ 4 := by unfold Good at hg; omega
  have h2 : 2 ≤ c.dq ∧ c.dq ≤ 8 := by unfold Good at hg; omega
  refine ⟨?_, by show 0 ≤ c.dq ∧ c.dq ≤ 100; omega⟩
  show -1 ≤ pEntry c i 0 ∧ pEntry c i 0 ≤ 14000
  unfold pEntry
  split
  · unfold pEnd
    split
    · next h =>
      have := mul_small (x := i) (y := 2 + c.dq) (X := 4) (Y := 10) (by omega) (by omega) (by omega) (by omega)
      omega
    · omega
  · omega

theorem pEnd_pos {c : Cfg} (hg : Good c) {i j : Int} (h : 0 ≤ i ∧ i < c.mks) (hj : 0 ≤ j) : 0 ≤ pEnd c i j := by
  have hd := dqs_bound hg
  have h1 : 1 ≤ c.mks ∧ c.mks ≤ 4 := by unfold Good at hg; omega
  have h2 : 2 ≤ c.dq ∧ c.dq ≤ 8 := by unfold Good at hg; omega
  have := mul_small (x := i) (y := 2 + c.dq) (X := 4) (Y := 10) (by omega) (by omega) (by omega) (by omega)
  unfold pEnd
  rw [if_pos h]
  omega

theorem addNew_any {B bm bs bl : Nat} {c : Cfg} (i x : Int) (w : World) (hm : MapAt w B bm c) (hB : B ≤ w.heap.size) (hg : Good c) (hx : U x) (hbs : bs < w.heap.size) (hbl : bl < w.heap.size) :
    Calls Tryz.prog 12 #[.pointer (some ⟨bm, 0, none⟩), .int .i64 i, .int .u64 x] w fun r w' => ∃ a, r = .returned (.pointer (some ⟨a, 0, none⟩)) ∧ AmAt w' a bm bs bl c i (newAM c i x) (NewB w w') ∧ Kept w w' := by
  by_cases hi : 0 ≤ i ∧ i < c.mks
  · refine (addNew_some i x w hm hB hg hi hx (ends_ok hg i) (pEnd_pos hg hi (by omega))).mono ?_
    rintro r w' ⟨a, b, q1, q2, rfl, hA, hd, z1, z2, z3, z4, hk⟩
    refine ⟨a, rfl, ?_, hk⟩
    unfold newAM
    rw [if_pos hi]
    have l1 := hd.blk.lt
    have l2 := (hd.box _ rfl).1.lt
    have l3 := (hd.box _ rfl).2.lt
    exact ⟨hx, fun k hk => ⟨hk.2, by have := hk.1; omega, by have := hk.1; omega⟩, ⟨z1, hA.lt⟩, _, _, hA, fun _ => ⟨rfl, rfl, b, q1, q2, rfl, hd, ⟨by omega, l1⟩, ⟨by omega, l2⟩, ⟨by omega, l3⟩, by omega, by omega, by omega⟩, fun e => by cases e⟩
  · have hb := Blk.new w 94 [.pointer (some ⟨bm, 0, none⟩), .int .u64 x, .pointer none, .pointer none, .bool false, .nilFunc]
    have hk : Kept w (w.alloc (.cells ([.pointer (some ⟨bm, 0, none⟩), .int .u64 x, .pointer none, .pointer none, .bool false, .nilFunc] : List Value).toArray 94)) := (Below.refl _ _).alloc (Nat.le_refl _) _
    have HP : Hid (pEnd c i 0 = -1) := if_neg hi
    have HN : Hid (newAM c i x = ⟨.done, x, ⟨.pushBottom, 0, 0, x, 0, false⟩, putOne x, false⟩) := by unfold Hid newAM; rw [if_neg hi]
    clear hi
    go_enter Tryz.func12, Tryz.ntmps12
    go_wp2_with fail
    refine (mTop_k i _ (hm.kept hk hB) hg).mono ?_; rintro r w2 ⟨rfl, hk2⟩
    rw [HP.out]
    go_wp2_with fail
    go_ret
    have hb2 := hk2.blk hb
    have z := hb2.lt
    refine ⟨_, rfl, ?_, hk.trans' hk2⟩
    rw [HN.out]
    exact ⟨hx, fun k hk => ⟨hk.2, by have := hk.1; omega, by have := hk.1; omega⟩, ⟨Nat.le_refl _, z⟩, _, _, hb2, fun e => (by cases e), fun e => by cases e⟩

/-- So many steps. -/
def amRun (c : Cfg) (i : Int) : Nat → List Int × AM → List Int × AM
  | 0, x => x
  | k + 1, x => amStep c i (amRun c i k x).1 (amRun c i k x).2

theorem afin_iff {q : APc} : q.fin = true ↔ q = .done := by cases q <;> simp [APc.fin]

theorem amStep_done {c : Cfg} {i : Int} {mem : List Int} {s : AM} (h : s.pc = .done) : amStep c i mem s = (mem, s) := by
  unfold amStep; rw [h]

theorem amRun_add (c : Cfg) (i : Int) (a b : Nat) (x : List Int × AM) : amRun c i (a + b) x = amRun c i b (amRun c i a x) := by
  induction b with
  | zero => rfl
  | succ b ih => rw [← Nat.add_assoc, amRun, amRun, ih]

theorem amRun_stay {c : Cfg} {i : Int} {a : Nat} {x : List Int × AM} (h : (amRun c i a x).2.pc = .done) (b : Nat) : amRun c i (a + b) x = amRun c i a x := by
  induction b with
  | zero => rfl
  | succ b ih => rw [← Nat.add_assoc, amRun, ih, amStep_done h]

theorem amRun_upto {c : Cfg} {i : Int} {a m : Nat} {x y : List Int × AM} (h : amRun c i a x = y) (hd : y.2.pc = .done) (hm : a ≤ m) : amRun c i m x = y := by
  obtain ⟨b, rfl⟩ := Nat.exists_eq_add_of_le hm
  rw [amRun_stay (by rw [h]; exact hd), h]

set_option maxRecDepth 8000 in
/-- A task is put somewhere, to the end (or nineteen steps). -/
theorem whole13_any {a bm bs bl B : Nat} {c : Cfg} {i : Int} {s : AM} {O : Nat → Prop} {mem : List Int} {n : Int} (w : World) (hg : Good c) (h : AmAt w a bm bs bl c i s O) (hs : StoreAt w bs bl mem n) (hm : MapAt w B bm c) (hB : B ≤ w.heap.size) (hO : ∀ k, O k → B ≤ k) (hBs : B ≤ bs) (hBl : B ≤ bl) :
    Calls Tryz.prog 11 #[.pointer (some ⟨a, 0, none⟩), .pointer (some ⟨bs, 0, none⟩)] w fun r w' => ∃ K : Nat, r = .returned (.int .i64 K) ∧ 1 ≤ K ∧ K ≤ 20 ∧ (∀ k, 1 ≤ k → k < K → (amRun c i k (mem, s)).2.pc.fin = false) ∧ (K < 20 → (amRun c i K (mem, s)).2.pc.fin = true) ∧
      AmAt w' a bm bs bl c i (amRun c i 19 (mem, s)).2 (Grow O w w') ∧ (∃ n', StoreAt w' bs bl (amRun c i 19 (mem, s)).1 n') ∧ Chg (OwnB O bs bl) w w' := by
  go_enter Tryz.func11, Tryz.ntmps11
  go_wp2_with fail
  go_loopw [5] (fun iv wr => ∃ (k : Nat) (n' : Int), k ≤ 19 ∧ iv = .int .i64 ((k : Int) + 1) ∧ AmAt wr a bm bs bl c i (amRun c i k (mem, s)).2 (Grow O w wr) ∧ StoreAt wr bs bl (amRun c i k (mem, s)).1 n' ∧ Chg (OwnB O bs bl) w wr ∧ (∀ q, 1 ≤ q → q ≤ k → (amRun c i q (mem, s)).2.pc.fin = false)) (fun iv _ => 20 - (intOf iv).toNat)
  case atStart => exact ⟨0, n, by omega, rfl, by rw [Grow.self]; exact h, hs, Chg.refl _ _, fun q h1 h2 => by omega⟩
  case round =>
    obtain ⟨k, n', hk, rfl, h', hs', hc, hbusy⟩ := hrel
    have z1 := hc.size
    have hm' : MapAt wr B bm c := hm.below (hc.toBelow hB (fun q hq e => by rcases e with e | e | e; have := hO q e; omega; omega; omega)) (Nat.le_refl _)
    have hO' : ∀ q, Grow O w wr q → B ≤ q := by
      rintro q (e | e)
      · exact hO q e
      · omega
    have HU : Hid (∀ q, 1 ≤ q → q ≤ k → (amRun c i q (mem, s)).2.pc.fin = false) := hbusy
    clear hbusy
    by_cases hk19 : k < 19
    · have D := astep_any wr hg h' hs' hm' (by omega) hO' hBs hBl
      rw [show amStep c i (amRun c i k (mem, s)).1 (amRun c i k (mem, s)).2 = amRun c i (k + 1) (mem, s) from rfl] at D
      have HO : Hid (∀ q, Grow O w wr q → B ≤ q) := hO'
      clear hO'
      cases hf : (amRun c i (k + 1) (mem, s)).2.pc.fin
      · rw [hf] at D
        have HF : Hid ((amRun c i (k + 1) (mem, s)).2.pc.fin = false) := hf
        clear hf
        go_wp2_with fail
        refine D.mono ?_; rintro e w2 ⟨rfl, h2, hs2, hc2⟩
        have z2 := hc2.size
        go_wp2_with fail
        go_roundw
        case rel =>
          refine ⟨k + 1, _, by omega, by go_num, by rw [← Grow.eq z1 z2]; exact h2, hs2, hc.grow hc2, fun q h1 h2 => ?_⟩
          by_cases e : q = k + 1
          · rw [e]; exact HF.out
          · exact HU.out q h1 (by omega)
        case measure => simp [intOf]; omega
      · rw [hf] at D
        have HF : Hid ((amRun c i (k + 1) (mem, s)).2.pc.fin = true) := hf
        clear hf
        go_wp2_with fail
        refine D.mono ?_; rintro e w2 ⟨rfl, h2, hs2, hc2⟩
        have z2 := hc2.size
        go_wp2_with fail
        go_ret
        have e19 : amRun c i 19 (mem, s) = amRun c i (k + 1) (mem, s) := amRun_upto rfl (afin_iff.1 HF.out) (by omega)
        refine ⟨k + 1, rfl, by omega, by omega, fun q h1 h2 => HU.out q h1 (by omega), fun _ => HF.out, ?_, ⟨_, by rw [e19]; exact hs2⟩, hc.grow hc2⟩
        rw [e19, ← Grow.eq z1 z2]; exact h2
    · obtain rfl : k = 19 := by omega
      clear hO' hk19
      go_wp2_with fail
      go_ret
      exact ⟨20, rfl, by omega, by omega, fun q h1 h2 => HU.out q h1 (by omega), fun h => by omega, h', ⟨_, hs'⟩, hc⟩

end Go.Proofs.YtfbcadknimfhjaaGreat
