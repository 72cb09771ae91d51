/- All words as they are at first: walked. -/
import Derived.Test.YtchlbdfapgeebaaCell2
import Derived.Test.YtchlbdfapgeebaaWord
namespace Go.Proofs.Ytchlbdfapgeebaa
open Go.RowKit

theorem atI_mono {c : Cfg} (k m : Nat) (h : k ≤ m) (hm : m ≤ nN c) : atI c k ≤ atI c m := by
  induction m with
  | zero =>
    obtain rfl : k = 0 := by omega
    exact Int.le_refl _
  | succ m ih =>
    by_cases e : k = m + 1
    · subst e; exact Int.le_refl _
    · have := ih (by omega) (by omega)
      have := atI_succ (c := c) (k := m) (by omega)
      have := rooms_get (c := c) (k := m) (by omega)
      omega

theorem atI_zero (c : Cfg) : atI c 0 = node0I c := by unfold atI; simp [sumI]

theorem pack_place {c : Cfg} (hg : Good c) {p j : Int} (h1 : 1 ≤ p) (h2 : p ≤ manyI c) (h3 : 0 ≤ j) (h4 : j ≤ 5) : 16 ≤ pPack c p j ∧ pPack c p j < node0I c ∧ node0I c ≤ allI c ∧ pPack c p j = pksI c + (p - 1) * 6 + j := by
  have := dqs_bound hg
  have := atI_mono (c := c) 0 (nN c) (by omega) (by omega)
  rw [atI_zero] at this
  have e : pPack c p j = pksI c + (p - 1) * 6 + j := if_pos ⟨h1, h2⟩
  unfold allI node0I at *
  omega

theorem node_place {c : Cfg} {v j : Int} (h1 : 1 ≤ v) (h2 : v ≤ nN c) (h3 : 0 ≤ j) (h4 : j < 4 + room c v) : node0I c ≤ pNode c v j ∧ pNode c v j < allI c := by
  have e : pNode c v j = atI c (v - 1).toNat + j := if_pos ⟨h1, h2⟩
  have hr : room c v = (rooms c)[(v - 1).toNat]?.getD 0 := if_pos ⟨h1, h2⟩
  have a := atI_mono (c := c) 0 (v - 1).toNat (by omega) (by omega)
  have b := atI_mono (c := c) ((v - 1).toNat + 1) (nN c) (by omega) (by omega)
  have s := atI_succ (c := c) (k := (v - 1).toNat) (by omega)
  rw [atI_zero] at a
  unfold allI
  omega

theorem cls_range {c : Cfg} {v : Int} (h1 : 1 ≤ v) (h2 : v ≤ nN c) : 0 ≤ clsI c v ∧ clsI c v ≤ 4 := by
  unfold clsI
  rw [if_pos ⟨h1, h2⟩, List.getElem?_eq_getElem (show (v - 1).toNat < (clsL c).length by rw [nN_cls]; omega)]
  exact clsL_mem c _ (List.getElem_mem _)

theorem head_place {c : Cfg} (hg : Good c) {v : Int} (h1 : 1 ≤ v) (h2 : v ≤ nN c) : 7 ≤ pHead c (clsI c v) ∧ pHead c (clsI c v) < pksI c := by
  have := cls_range h1 h2
  have := dqs_bound hg
  have e : pHead c (clsI c v) = headI c + clsI c v := if_pos ⟨by omega, by omega⟩
  have hh : headI c = 6 + c.mus := rfl
  have hd : dqsI c = headI c + 5 := rfl
  obtain ⟨_, _, _, _, _, _, hu, _⟩ := hg
  omega

theorem allI_bound {c : Cfg} (hg : Good c) : 40 ≤ allI c ∧ allI c ≤ 14000 := atI_bound hg _

/-- Memory with k packets linked. -/
def linkTo (c : Cfg) : Nat → List Int
  | 0 => (List.replicate (allI c).toNat 0).set 5 1
  | k + 1 => mput (linkTo c k) (pPack c (k + 1) 1) (k + 2)

/-- .. and with j nodes free, from the last but one on. -/
def freeTo (c : Cfg) : Nat → List Int
  | 0 => mput (mput (linkTo c (manyI c - 1).toNat) (pNode c (nN c) 1) 1) (pNode c (nN c) 0) (room c (nN c))
  | j + 1 =>
    let v : Int := nN c - 1 - j
    let h := pHead c (clsI c v)
    let l := freeTo c j
    mput (mput l (pNode c v 3) (mget l h)) h v

/-- All words as they are at first. -/
def firstL (c : Cfg) : List Int := freeTo c (nN c - 1)

theorem linkTo_len (c : Cfg) (k : Nat) : (linkTo c k).length = (allI c).toNat := by
  induction k with
  | zero => simp [linkTo]
  | succ k ih => rw [linkTo, mput_len, ih]

theorem freeTo_len (c : Cfg) (j : Nat) : (freeTo c j).length = (allI c).toNat := by
  induction j with
  | zero => rw [freeTo, mput_len, mput_len, linkTo_len]
  | succ j ih => simp only [freeTo, mput_len, ih]

theorem linkTo_all {c : Cfg} (k : Nat) (hk : k ≤ 2000) : ∀ x ∈ linkTo c k, U x := by
  induction k with
  | zero =>
    intro x hx
    rcases List.mem_or_eq_of_mem_set hx with h | h
    · rw [List.eq_of_mem_replicate h]; unfold U; omega
    · rw [h]; unfold U; omega
  | succ k ih => exact mput_all (ih (by omega)) _ _ (by unfold U; omega)

theorem freeTo_all {c : Cfg} (hg : Good c) (j : Nat) (hj : j ≤ nN c) : ∀ x ∈ freeTo c j, U x := by
  have hn := nN_bound hg
  have hm := manyI_bound hg
  induction j with
  | zero =>
    have := room_bound c (nN c)
    exact mput_all (mput_all (linkTo_all _ (by omega)) _ _ (by unfold U; omega)) _ _ (by unfold U; omega)
  | succ j ih =>
    have := ih (by omega)
    exact mput_all (mput_all this _ _ (mget_all this _)) _ _ (by unfold U; omega)

theorem mClass_any {B bm : Nat} {c : Cfg} (v : Int) (w : World) (hm : MapAt w B bm c) (hg : Good c) (h63 : v ≤ 9223372036854775807) :
    Calls Try.prog 34 #[.pointer (some ⟨bm, 0, none⟩), .int .i64 v] w fun e w' => e = .returned (.int .i64 (clsI c v)) ∧ Kept w w' := by
  obtain ⟨q0, q1, q2, q3, q4, _⟩ := hm.conf
  go_enter Try.func34, Try.ntmps34
  go_wp2_with fail
  refine (class_any c v _ hg h63).mono ?_; rintro e w' ⟨rfl, hk⟩
  go_wp2_with fail
  go_ret
  exact ⟨rfl, hk⟩

/-- A row of words, in a block. -/
theorem words_set {L : List Int} {a : Int} {i : Nat} (ha : a = i) (hi : i < L.length) (x : Int) : (L.map (Value.int .u64)).set i (.int .u64 x) = (mput L a x).map (Value.int .u64) := by
  unfold mput; rw [if_pos (by omega), ha, List.map_set]; simp

theorem at_cell {w : World} {g : Nat} {L : List Int} (hb : Blk w g 42 (L.map (Value.int .u64))) {a : Int} {i : Nat} (ha : a = i) (hi : i < L.length) : w.cell? ⟨g, i, none⟩ = some (.int .u64 (mget L a)) ∧ w.frozen? ⟨g, i, none⟩ = false := by
  refine ⟨?_, hb.free i⟩
  rw [hb.cell i, List.getElem?_map]
  unfold mget
  rw [if_pos (by omega), ha, List.getElem?_eq_getElem hi]
  simp [List.getElem?_eq_getElem hi]

theorem MapAt.drew {w : World} {B bm : Nat} {c : Cfg} (h : MapAt w B bm c) : MapAt w.drew B bm c := h.below (B' := B) ⟨rfl, rfl, rfl, Nat.le_refl _, fun _ _ => rfl⟩ (Nat.le_refl _)

theorem next_is {B bm : Nat} {c : Cfg} {v n : Int} (h : pNode c v 3 = n) (w : World) (hm : MapAt w B bm c) (hg : Good c) :
    Calls Try.prog 35 #[.pointer (some ⟨bm, 0, none⟩), .int .i64 v] w fun e w' => e = .returned (.int .i64 n) ∧ w = w' := h ▸ mNext_any v w hm hg

set_option maxRecDepth 8000 in
set_option maxHeartbeats 1600000 in
theorem first_any {B bm : Nat} {c : Cfg} (w : World) (hm : MapAt w B bm c) (hg : Good c) (hB : B ≤ w.heap.size) :
    Calls Try.prog 8 #[.pointer (some ⟨bm, 0, none⟩)] w fun e w' => ∃ v, e = .returned v ∧ Row w' v ((firstL c).map (Value.int .u64)) ∧ Kept w w' := by
  have hab := allI_bound hg
  obtain ⟨hab0, hab1⟩ := hab
  obtain ⟨A, hA⟩ : ∃ A : Nat, allI c = A := ⟨(allI c).toNat, by omega⟩
  have HA : Hid (allI c = A) := hA
  obtain ⟨_, _, _, _, _, _, _, _, c6, c8⟩ := id hm.cells
  rw [hA] at c8 hab0 hab1
  have hmk := run_make_row' (P := Try.prog) 34 42 (.int .u64 0) 8 Try.underlying34 info_u64 rfl .i64 .i64 A (by omega) (by omega) w
  have hO : madeCells #[Value.int IntKind.u64 0] A = ((List.replicate A (0 : Int)).map (Value.int .u64)).toArray := by
    rw [← Array.toList_inj]; rw [toList_madeCells_one]; simp
  rw [hO] at hmk
  clear hO hA
  have hk0 : Kept w (w.alloc (.cells ((List.replicate A (0 : Int)).map (Value.int .u64)).toArray 42)) := (Below.refl _ _).alloc (Nat.le_refl _) _
  have hb0 : Blk (w.alloc (.cells ((List.replicate A (0 : Int)).map (Value.int .u64)).toArray 42)) w.heap.size 42 ((List.replicate A (0 : Int)).map (Value.int .u64)) := Blk.new _ _ _
  have hm0 := hm.kept hk0 hB
  generalize hw1 : w.alloc (.cells ((List.replicate A (0 : Int)).map (Value.int .u64)).toArray 42) = w1 at hmk hk0 hb0 hm0
  have f5 := hb0.free 5
  have g5 := hb0.cell 5
  rw [List.getElem?_map, List.getElem?_replicate, if_pos (by omega), Option.map_some] at g5
  have h5 : (5 : Int) < A := by omega
  clear hw1 hm
  go_enter Try.func8, Try.ntmps8
  go_wp2_with fail
  refine (pair_any 0 1 _ (by omega) (by omega) (by omega) (by omega)).mono ?_; rintro e w2 ⟨rfl, rfl⟩
  go_wp2_with fail
  have hbs := hb0.set' 5 (.int .u64 1) (l' := (linkTo c 0).map (Value.int .u64)) (by unfold linkTo; rw [HA.out, List.map_set]; rfl)
  have hms : MapAt (w1.setCell ⟨w.heap.size, 5, none⟩ (.int .u64 1)) B bm c := hm0.below (Below.setCell (Below.refl w.heap.size w1) (p := ⟨w.heap.size, 5, none⟩) (Nat.le_refl _) _) hB
  have hks := Below.setCell hk0 (p := ⟨w.heap.size, 5, none⟩) (Nat.le_refl _) (.int .u64 1)
  clear f5 g5 h5 hmk hb0 hm0 hk0 c6 c8
  have hmb := manyI_bound hg
  obtain ⟨hmb0, hmb1⟩ := hmb
  go_loopw [4] (fun p wr => ∃ k : Nat, p = .int .i64 ((k : Int) + 1) ∧ (k : Int) + 1 ≤ manyI c ∧ Blk wr w.heap.size 42 ((linkTo c k).map (Value.int .u64)) ∧ MapAt wr B bm c ∧ Kept w wr) (fun p _ => (manyI c).toNat - (intOf p).toNat)
  case atStart => exact ⟨0, by go_num, by omega, hbs, hms, hks⟩
  case round =>
    clear hbs hms hks
    obtain ⟨k, rfl, hk1, hb, hm, hk⟩ := hrel
    obtain ⟨_, _, _, _, _, _, _, c6, _⟩ := hm.cells
    by_cases hlt : (k : Int) + 1 < manyI c
    · have hp := pack_place hg (p := (k : Int) + 1) (j := 1) (by omega) (by omega) (by omega) (by omega)
      obtain ⟨hp0, hp1, hp2, _⟩ := hp
      obtain ⟨a, ha⟩ : ∃ a : Nat, pPack c (k + 1) 1 = a := ⟨(pPack c (k + 1) 1).toNat, by omega⟩
      have HP : Hid (pPack c (k + 1) 1 = a) := ha
      have haA : a < A := by have := HA.out; omega
      have hal : a < (linkTo c k).length := by rw [linkTo_len]; have := HA.out; omega
      obtain ⟨g, f⟩ := at_cell hb (rfl : (a : Int) = a) hal
      have HS := words_set (L := linkTo c k) (a := a) (i := a) rfl hal (k + 2)
      rw [show mput (linkTo c k) a (k + 2) = linkTo c (k + 1) from by rw [linkTo, HP.out]] at HS
      replace HS : Hid _ := HS
      have h0 : (0 : Int) ≤ a := by omega
      have h1 : (a : Int) < A := by omega
      clear ha hp0 hp1 hp2
      generalize mget (linkTo c k) a = old at *
      go_wp2_with fail
      refine (mLink_any _ _ hm hg).mono ?_; rintro e w2 ⟨rfl, rfl⟩
      rw [HP.out]
      go_wp2_with fail
      go_roundw
      case rel =>
        refine ⟨k + 1, by go_num, by push_cast; omega, ?_, ?_, ?_⟩
        · have := hb.set' a (.int .u64 (k + 2)) HS.out
          rw [show (k : Int) + 2 = k + 1 + 1 from by omega] at this
          exact this
        · exact hm.below (Below.setCell (Below.refl w.heap.size wr) (p := ⟨w.heap.size, a, none⟩) (Nat.le_refl _) _) hB
        · exact Below.setCell hk (p := ⟨w.heap.size, a, none⟩) (Nat.le_refl _) _
      case measure => simp [intOf]; omega
    · have hkm : (k : Int) + 1 = manyI c := by omega
      go_wp2_with fail
      refine (mCommon_any _ hm).mono ?_; rintro e w2 ⟨rfl, rfl⟩
      have hn := nN_bound hg
      obtain ⟨hn0, hn1⟩ := hn
      have hrb := room_bound c (nN c)
      obtain ⟨hrb0, hrb1⟩ := hrb
      have hp1 := node_place (c := c) (v := nN c) (j := 1) (by omega) (by omega) (by omega) (by omega)
      have hp0 := node_place (c := c) (v := nN c) (j := 0) (by omega) (by omega) (by omega) (by omega)
      have hnb := node0_bound hg
      obtain ⟨a1, ha1⟩ : ∃ a : Nat, pNode c (nN c) 1 = a := ⟨(pNode c (nN c) 1).toNat, by omega⟩
      obtain ⟨a0, ha0⟩ : ∃ a : Nat, pNode c (nN c) 0 = a := ⟨(pNode c (nN c) 0).toNat, by omega⟩
      have e1 : a1 = a0 + 1 := by
        have x1 : pNode c (nN c) 1 = atI c (nN c - 1 : Int).toNat + 1 := if_pos ⟨by omega, by omega⟩
        have x0 : pNode c (nN c) 0 = atI c (nN c - 1 : Int).toNat + 0 := if_pos ⟨by omega, by omega⟩
        omega
      have HP1 : Hid (pNode c (nN c) 1 = a1) := ha1
      have HP0 : Hid (pNode c (nN c) 0 = a0) := ha0
      have hA := HA.out
      have hl1 : a1 < (linkTo c k).length := by rw [linkTo_len]; omega
      have hl0 : a0 < (mput (linkTo c k) a1 1).length := by rw [mput_len, linkTo_len]; omega
      have hl0' : a0 < (linkTo c k).length := by rw [linkTo_len]; omega
      have HS1 : Hid _ := words_set (L := linkTo c k) (a := a1) (i := a1) rfl hl1 1
      have HS0 : Hid _ := words_set (L := mput (linkTo c k) a1 1) (a := a0) (i := a0) rfl hl0 (room c (nN c))
      obtain ⟨g1, f1⟩ := at_cell hb (rfl : (a1 : Int) = a1) hl1
      obtain ⟨g0, f0⟩ := at_cell hb (rfl : (a0 : Int) = a0) hl0'
      have z1 : (0 : Int) ≤ a1 := by omega
      have z2 : (a1 : Int) < A := by omega
      have z3 : (0 : Int) ≤ a0 := by omega
      have z4 : (a0 : Int) < A := by omega
      have z5 : ¬ a1 = a0 := by omega
      have hkk : k = (manyI c - 1).toNat := by omega
      generalize mget (linkTo c k) a1 = old1 at *
      generalize mget (linkTo c k) a0 = old0 at *
      clear ha1 ha0 e1 hl1 hl0 hl0' hp1 hp0 hnb hA hk1 hkm hlt c6
      go_wp2_with fail
      refine (mState_any _ _ hm hg).mono ?_; rintro e w2 ⟨rfl, rfl⟩
      rw [HP1.out]
      go_wp2_with fail
      refine (mHeader_any _ _ hm hg).mono ?_; rintro e w2 ⟨rfl, rfl⟩
      rw [HP0.out]
      go_wp2_with fail
      refine (mRoom_any _ _ hm hg).mono ?_; rintro e w2 ⟨rfl, rfl⟩
      generalize hR : room c (nN c) = R at *
      go_wp2_with fail
      have hb1 := (hb.set' a1 (.int .u64 1) HS1.out).set' a0 (.int .u64 R) HS0.out
      rw [show mput (mput (linkTo c k) a1 1) a0 R = freeTo c 0 from by rw [freeTo, HP1.out, HP0.out, hR, hkk]] at hb1
      have hm1 : MapAt ((wr.setCell ⟨w.heap.size, a1, none⟩ (.int .u64 1)).setCell ⟨w.heap.size, a0, none⟩ (.int .u64 R)) B bm c := hm.below (Below.setCell (Below.setCell (Below.refl w.heap.size wr) (p := ⟨w.heap.size, a1, none⟩) (Nat.le_refl _) _) (p := ⟨w.heap.size, a0, none⟩) (Nat.le_refl _) _) hB
      have hk1 := Below.setCell (Below.setCell hk (p := ⟨w.heap.size, a1, none⟩) (Nat.le_refl _) (.int .u64 1)) (p := ⟨w.heap.size, a0, none⟩) (Nat.le_refl _) (.int .u64 R)
      generalize ((wr.setCell ⟨w.heap.size, a1, none⟩ (.int .u64 1)).setCell ⟨w.heap.size, a0, none⟩ (.int .u64 R)) = wf at *
      clear hb hm hk g1 f1 g0 f0 z1 z2 z3 z4 z5 HS1 HS0 HP1 HP0
      go_loopw [6, 7] (fun v _ wr => ∃ j : Nat, j ≤ nN c - 1 ∧ v = .int .i64 (nN c - 1 - j : Int) ∧ Blk wr w.heap.size 42 ((freeTo c j).map (Value.int .u64)) ∧ MapAt wr B bm c ∧ Kept w wr) (fun v _ _ => (intOf v).toNat)
      case atStart => exact ⟨0, by omega, by go_num, hb1, hm1, hk1⟩
      case round =>
        clear hb1 hm1 hk1
        obtain ⟨j, hj, rfl, hb, hm, hk⟩ := hrel
        by_cases hv : 1 ≤ (nN c - 1 - j : Int)
        · obtain ⟨V, hV⟩ : ∃ V : Int, (nN c - 1 - j : Int) = V := ⟨_, rfl⟩
          have hV1 : V ≤ nN c := by omega
          rw [hV] at hv
          have hp := node_place (c := c) (v := V) (j := 3) (by omega) (by omega) (by omega) (by have := room_bound c V; omega)
          have hh := head_place hg (v := V) (by omega) (by omega)
          have hnb := node0_bound hg
          have hdb := dqs_bound hg
          have hpn : pksI c ≤ node0I c := by unfold node0I; omega
          obtain ⟨a, ha⟩ : ∃ a : Nat, pNode c V 3 = a := ⟨(pNode c V 3).toNat, by omega⟩
          obtain ⟨h, hh'⟩ : ∃ h : Nat, pHead c (clsI c V) = h := ⟨(pHead c (clsI c V)).toNat, by omega⟩
          have HPa : Hid (pNode c V 3 = a) := ha
          have HPh : Hid (pHead c (clsI c V) = h) := hh'
          have hA := HA.out
          have la : a < (freeTo c j).length := by rw [freeTo_len]; omega
          have lh : h < (freeTo c j).length := by rw [freeTo_len]; omega
          have lh2 : h < (mput (freeTo c j) a (mget (freeTo c j) h)).length := by rw [mput_len]; exact lh
          have hne : ¬ a = h := by omega
          have hne' : ¬ h = a := by omega
          have HS1 : Hid _ := words_set (L := freeTo c j) (a := a) (i := a) rfl la (mget (freeTo c j) h)
          have HS2 : Hid _ := words_set (L := mput (freeTo c j) a (mget (freeTo c j) h)) (a := h) (i := h) rfl lh2 V
          have HF : Hid (mput (mput (freeTo c j) a (mget (freeTo c j) h)) h V = freeTo c (j + 1)) := by
            unfold Hid; simp only [freeTo]; rw [hV, HPa.out, HPh.out]
          have z1 : (0 : Int) ≤ a := by omega
          have z2 : (a : Int) < A := by omega
          have z3 : (0 : Int) ≤ h := by omega
          have z4 : (h : Int) < A := by omega
          rw [HF.out] at HS2
          have HV : Hid ((nN c - 1 - j : Int) = V) := hV
          have z5 : V < 4294967296 := by omega
          have La : Hid (a < (freeTo c j).length) := la
          have Lh : Hid (h < (freeTo c j).length) := lh
          clear ha hh' hp hh hnb hdb hpn hA la lh lh2
          rw [hV]
          clear hV HF
          go_wp2_with fail
          refine (mClass_any V _ hm hg (by omega)).mono ?_; rintro e w2 ⟨rfl, hk2⟩
          replace hm := hm.below hk2 (by have := hk.size; omega)
          replace hb := hk2.blk hb
          replace hk := hk.trans' hk2
          obtain ⟨ga, fa⟩ := at_cell hb (rfl : (a : Int) = a) La.out
          obtain ⟨gh, fh⟩ := at_cell hb (rfl : (h : Int) = h) Lh.out
          clear hk2 La Lh
          generalize mget (freeTo c j) a = old at *
          generalize mget (freeTo c j) h = mh at *
          go_wp2_with fail
          refine (mHead_any _ _ hm hg).mono ?_; rintro e w3 ⟨rfl, rfl⟩
          rw [HPh.out]
          go_wp2_with fail
          go_region_held3 (fun w' => w'.cell? ⟨w.heap.size, h, none⟩ = some (.int .u64 mh)) (first | exact gh | exact keepCell gh (by simp []))
            (first | (go_at_call 35; refine (next_is HPa.out _ hm.drew hg).mono ?_; rintro e w3 ⟨rfl, rfl⟩))
          go_wp2_with fail
          refine (pair_any 0 V _ (by omega) (by omega) (by omega) z5).mono ?_; rintro e w3 ⟨rfl, rfl⟩
          go_wp2_with fail
          go_roundw
          case rel =>
            refine ⟨j + 1, by have := HV.out; omega, by rw [← HV.out]; go_num, ?_, ?_, ?_⟩
            · have := (hb.set' a (.int .u64 mh) HS1.out).set' h (.int .u64 V) HS2.out
              exact this
            · exact hm.below (Below.drew (Below.setCell (Below.setCell (Below.refl w.heap.size w2) (p := ⟨w.heap.size, a, none⟩) (Nat.le_refl _) _) (p := ⟨w.heap.size, h, none⟩) (Nat.le_refl _) _)) hB
            · exact Below.drew (Below.setCell (Below.setCell hk (p := ⟨w.heap.size, a, none⟩) (Nat.le_refl _) _) (p := ⟨w.heap.size, h, none⟩) (Nat.le_refl _) _)
          case measure => have := HV.out; simp [intOf]; omega
        · go_wp2_with fail
          go_ret
          have hjn : j = nN c - 1 := by omega
          have hl : (firstL c).length = A := by unfold firstL; rw [freeTo_len]; have := HA.out; omega
          subst hjn
          refine ⟨_, rfl, ⟨some ⟨w.heap.size, 0, none⟩, A, by simp [hl], by simp [hl]; unfold maxLen; omega, fun i u hu => ⟨w.heap.size, rfl, hb.lt, ?_⟩⟩, hk⟩
          rw [hb.cell i]; exact hu

end Go.Proofs.Ytchlbdfapgeebaa
