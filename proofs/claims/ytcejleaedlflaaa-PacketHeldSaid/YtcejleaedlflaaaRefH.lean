/- The document's tasks of the pool: walked. -/
import Derived.Test.YtcejleaedlflaaaRef9
import Derived.Test.YtcejleaedlflaaaPackR
namespace Go.Proofs.Ytcejleaedlflaaa
open Go.RowKit

def lenV : Value → Nat
  | .slice _ n _ => n
  | _ => 0

theorem info_i64 : (Try.prog.info? 3).map (fun i => (i.zero, i.size, i.bytes)) = some (some (.int .i64 0), 1, 8) := by kernel_rfl

set_option maxRecDepth 8000 in
set_option maxHeartbeats 1600000 in
theorem walk_ref {Ls mem : List Int} {l vl : Value} (hd : Int) (N : Nat) (w : World) (hv : Row w vl (Ls.map (Value.int .i64))) (hm : MemV w l mem) (hall : ∀ x ∈ mem, U x) (hN : N ≤ 5000) (_hlen : mem.length ≤ 20000) :
    Calls Try.prog 55 #[l, .agg #[.int .i64 hd, vl], .int .i64 N] w fun e w' => ∃ v', e = .returned v' ∧ w'.ownsRow w.heap.size 3 1 v' (walkL (lkL Ls) mem N hd).length ((walkL (lkL Ls) mem N hd).map (Value.int .i64)) ∧ Kept w w' := by
  obtain ⟨i0, hi, hz0, hz1, hz2⟩ := info_parts info_i64
  obtain ⟨ao, cap, hvl⟩ := hv.form
  obtain ⟨ln, hln⟩ : ∃ ln, ln = (Ls.map (Value.int .i64)).length := ⟨_, rfl⟩
  rw [← hln] at hvl
  subst hvl
  clear hln
  have hrow := hm
  obtain ⟨mo, mc, rfl, hmm, hmc⟩ := hm.at
  have HR : Hid (∀ W, Kept w W → Row W (.slice ao ln cap) (Ls.map (Value.int .i64))) := fun W k => hv.kept k
  have HC : Hid (∀ i, i < mem.length → ∃ g, mo = some ⟨g, 0, none⟩ ∧ w.cell? ⟨g, i, none⟩ = some (.int .u64 (mem[i]?.getD 0))) := hmc
  have HA : Hid (∀ x ∈ mem, U x) := hall
  clear hrow hmc hm hv hall
  have hb1 := Blk.new w 55 [.int .i64 hd, .slice ao ln cap]
  have hk1 : Kept w (w.alloc (.cells ([.int .i64 hd, .slice ao ln cap] : List Value).toArray 55)) := (Below.refl _ _).alloc (Nat.le_refl _) _
  have z1 : (w.alloc (.cells ([.int .i64 hd, .slice ao ln cap] : List Value).toArray 55)).heap.size = w.heap.size + 1 := by simp
  go_enter Try.func55, Try.ntmps55
  go_wp2_with fail
  generalize w.alloc (.cells ([.int .i64 hd, .slice ao ln cap] : List Value).toArray 55) = w1 at *
  go_loopw [7, 8] (fun v av wr => ∃ (pre : List Int) (k : Nat) (a : Int), av = .int .i64 a ∧ walkL (lkL Ls) mem N hd = pre ++ walkL (lkL Ls) mem k a ∧ pre.length + k = N ∧ wr.ownsRow w1.heap.size 3 1 v pre.length (pre.map (Value.int .i64)) ∧ Kept w1 wr) (fun v _ _ => N - lenV v)
  case atStart => exact ⟨[], N, hd, rfl, rfl, by simp, World.ownsRow_nil _ _ _ _, Below.refl _ _⟩
  case round =>
    obtain ⟨pre, k, a, rfl, hw, hpk, own, hkr⟩ := hrel
    obtain ⟨vo, vc, rfl⟩ := own_slice own
    obtain ⟨pl, hpl⟩ : ∃ pl, pre.length = pl := ⟨_, rfl⟩
    have HPL : Hid (pre.length = pl) := hpl
    rw [hpl] at own hpk ⊢
    clear hpl
    have hkw : Kept w wr := hk1.trans' hkr
    by_cases hex : k = 0 ∨ ¬ (0 ≤ a ∧ a < mem.length) ∨ loI (mget mem a) = 0
    · have hw0 : walkL (lkL Ls) mem k a = [] := by
        match k, hex with
        | 0, _ => rfl
        | k + 1, hex =>
          rw [walkL, if_neg]
          intro h
          rcases hex with e | e | e
          · omega
          · exact e ⟨h.1, h.2.1⟩
          · exact h.2.2 e
      rw [hw0, List.append_nil] at hw
      have HW : Hid (walkL (lkL Ls) mem N hd = pre) := hw
      clear hw hw0
      have HF : Hid (wr.ownsRow w.heap.size 3 1 (.slice vo pl vc) (walkL (lkL Ls) mem N hd).length ((walkL (lkL Ls) mem N hd).map (Value.int .i64))) := by
        unfold Hid; rw [HW.out, HPL.out]; exact ownsRow_mono own (by omega)
      by_cases hk0 : k = 0
      · have hp0 : ¬ (pl : Int) < N := by omega
        clear hex
        go_wp2_with fail
        go_ret
        exact ⟨_, rfl, HF.out, hkw⟩
      · have hp0 : (pl : Int) < N := by omega
        by_cases ha0 : a ≥ 0
        · by_cases ha1 : a < mem.length
          · have hlo : loI (mget mem a) = 0 := by
              rcases hex with e | e | e
              · exact absurd e hk0
              · exact absurd ⟨ha0, ha1⟩ e
              · exact e
            obtain ⟨q, rfl⟩ : ∃ q : Nat, a = q := ⟨a.toNat, by omega⟩
            obtain ⟨g, rfl, hcell⟩ := HC.out q (by omega)
            have hx : mget mem q = mem[q]?.getD 0 := by unfold mget; rw [if_pos ⟨ha0, ha1⟩]; rfl
            have hux : U (mem[q]?.getD 0) := hx ▸ mget_all HA.out q
            rw [hx] at hlo
            have hcell' := Kept.cellK hkw hcell
            generalize mem[q]?.getD 0 = x at *
            have HLO : Hid (loI x = 0) := hlo
            clear hlo hx hex hcell
            go_wp2_with fail
            refine (low_ref x wr hux).mono ?_; rintro e wx ⟨rfl, rfl⟩
            rw [HLO.out]
            go_wp2_with fail
            go_ret
            exact ⟨_, rfl, HF.out, hkw⟩
          · clear hex
            go_wp2_with fail
            go_ret
            exact ⟨_, rfl, HF.out, hkw⟩
        · clear hex
          go_wp2_with fail
          go_ret
          exact ⟨_, rfl, HF.out, hkw⟩
    · obtain ⟨k, rfl⟩ : ∃ k', k = k' + 1 := ⟨k - 1, by omega⟩
      have h0 : 0 ≤ a ∧ a < mem.length := by
        refine Classical.byContradiction fun h => hex (.inr (.inl h))
      have h1 : loI (mget mem a) ≠ 0 := fun h => hex (.inr (.inr h))
      rw [walkL, if_pos ⟨h0.1, h0.2, h1⟩] at hw
      obtain ⟨ha0, ha1⟩ := h0
      obtain ⟨q, rfl⟩ : ∃ q : Nat, a = q := ⟨a.toNat, by omega⟩
      obtain ⟨g, rfl, hcell⟩ := HC.out q (by omega)
      have hx : mget mem q = mem[q]?.getD 0 := by unfold mget; rw [if_pos ⟨ha0, ha1⟩]; rfl
      have hux : U (mem[q]?.getD 0) := hx ▸ mget_all HA.out q
      rw [hx] at h1 hw
      have hcell' := Kept.cellK hkw hcell
      have HCW : Hid (w.cell? ⟨g, q, none⟩ = some (.int .u64 (mem[q]?.getD 0))) := hcell
      generalize mem[q]?.getD 0 = x at *
      have hlb := loI_bound x
      obtain ⟨p, hp⟩ : ∃ p, loI x = p := ⟨_, rfl⟩
      have HP : Hid (loI x = p) := hp
      rw [hp] at h1 hw hlb
      have HW : Hid (walkL (lkL Ls) mem N hd = pre ++ p :: walkL (lkL Ls) mem k (lkL Ls p)) := hw
      obtain ⟨hlb0, hlb1⟩ := hlb
      have hpp : p > 0 := by omega
      have hpl0 : (pl : Int) < N := by omega
      have yp : IntKind.i64.wrap p = p := IntWalk.i64_in _ (by omega)
      clear hp hw hex hx hcell h1
      go_wp2_with fail
      refine (low_ref x wr hux).mono ?_; rintro e wx ⟨rfl, rfl⟩
      rw [HP.out]
      go_wp2_with fail
      refine (low_ref x wr hux).mono ?_; rintro e wx ⟨rfl, rfl⟩
      rw [HP.out]
      go_wp2_with (at_builtin; refine wpList_append_lies _ rfl _ _ 53 rfl w1.heap.size 3 i0 (.int .i64 0) 1 8 Try.underlying53 hi hz0 hz1 hz2 rfl (by decide) _ _ _ rfl (World.ownsRow.alloc own _) ⟨wr.heap.size, 0, none⟩ 1 1 [.int .i64 p] rfl rfl ?c1 ?c2 (by omega) ?c3 ?c4 ?c5 _ rfl ?_)
      case c1 => intro j u hj; match j, hj with | 0, hj => simp at hj; subst hj; simp [Addr.add]
      case c2 => intro u hu; simp at hu; subst hu; rfl
      case c3 => unfold maxLen; omega
      case c4 => omega
      case c5 => have := hkr.size; simp; omega
      intro gn cpn w2 own2 hgrow _ hgl
      have hk2 : Kept w1 w2 := (hkr.alloc hkr.size _).grown hgrow (by have := hkr.size; simp; omega) (fun g hg => (ownsRow_base own g hg).1)
      clear hgrow own
      have hb2 := hk2.blk hb1
      have hkw2 : Kept w w2 := hk1.trans' hk2
      have hcell2 := Kept.cellK hkw2 HCW.out
      have hb2d := hb2.drew
      have hkd : Kept w w2.drew := hkw2.drew
      have hcd : w2.drew.cell? ⟨g, q, none⟩ = some (.int .u64 x) := hcell2
      have d0 := hb2d.cell 0
      have d1 := hb2d.cell 1
      simp only [List.getElem?_cons_zero, List.getElem?_cons_succ] at d0 d1
      have own3 := own2.drew
      have hk3 : Kept w1 w2.drew := hk2.drew
      clear hcell'
      go_wp2_with fail
      refine wp_region_z 7 (fun w' => w'.cell? ⟨w.heap.size, 0, none⟩ = some (.int .i64 hd) ∧ w'.cell? ⟨w.heap.size, 1, none⟩ = some (.slice ao ln cap) ∧ w'.cell? ⟨g, q, none⟩ = some (.int .u64 x)) (by kernel_rfl) ?_
      refine wpAnyZ_take (i := 0) (v := ?v0z7) rfl (by kernel_rfl) (by kernel_rfl) (by kernel_rfl) (by kernel_rfl) (fun _ _ _ h => h) (Or.inl ⟨by rfl, ?hy0z7⟩) ⟨d0,d1,hcd⟩ ?_
      case hy0z7 => intro w hSw; (try dsimp only at hSw); first | (go_simp; done) | (go_simp; with_reducible rfl)
      try simp only [Act.put, List.setIfInBounds_toArray]
      refine wpAnyZ_take (i := 1) (v := ?v1z7) rfl (by kernel_rfl) (by kernel_rfl) (by kernel_rfl) (by kernel_rfl) (fun _ _ _ h => h) (Or.inl ⟨by rfl, ?hy1z7⟩) ⟨d0,d1,hcd⟩ ?_
      case hy1z7 => intro w hSw; (try dsimp only at hSw); first | (go_simp; done) | (go_simp; with_reducible rfl)
      try simp only [Act.put]
      refine wpAnyZ_take (i := 2) (v := ?v2z7) rfl (by kernel_rfl) (by kernel_rfl) (by kernel_rfl) (by kernel_rfl) (fun _ _ _ h => h) (Or.inl ⟨by rfl, ?hy2z7⟩) ⟨d0,d1,hcd⟩ ?_
      case hy2z7 => intro w hSw; (try dsimp only at hSw); first | (go_simp; done) | (go_simp; with_reducible rfl)
      try simp only [Act.put]
      refine wpAnyZ_take (i := 3) (v := ?v3z7) rfl (by kernel_rfl) (by kernel_rfl) (by kernel_rfl) (by kernel_rfl) (fun _ _ _ h => h) (Or.inl ⟨by rfl, ?hy3z7⟩) ⟨d0,d1,hcd⟩ ?_
      case hy3z7 => intro w hSw; (try dsimp only at hSw); first | (go_simp; done) | (go_simp; with_reducible rfl)
      try simp only [Act.put]
      refine wpAnyZ_take (i := 4) (v := ?v4z7) rfl (by kernel_rfl) (by kernel_rfl) (by kernel_rfl) (by kernel_rfl) (fun _ _ _ h => h) (Or.inl ⟨by rfl, ?hy4z7⟩) ⟨d0,d1,hcd⟩ ?_
      case hy4z7 => intro w hSw; (try dsimp only at hSw); first | (go_simp; done) | (go_simp; with_reducible rfl)
      try simp only [Act.put]
      refine wpAnyZ_one (i := 5) (by kernel_rfl) rfl (fun K hK => ?_)
      go_simp
      go_at_call 78
      refine (low_ref x _ hux).mono ?_; rintro e wx ⟨rfl, rfl⟩
      rw [HP.out]
      refine hK.out _ _ (fun _ => ⟨d0, d1, hcd⟩) ?_
      clear hK K
      try simp only [Act.put, List.setIfInBounds_toArray, List.set_cons_zero, List.set_cons_succ]
      refine wpAnyZ_one (i := 6) (by kernel_rfl) rfl (fun K hK => ?_)
      go_simp
      go_at_call 79
      refine (kAt_ref hd p _ (HR.out _ hkd) ⟨by omega, by omega⟩).mono ?_; rintro e w5 ⟨rfl, hkc⟩
      have hb5 := hkc.blk hb2d
      have own5 := ownsRow_kept' own3 hkc
      have hk5 : Kept w1 w5 := Kept.trans' hk3 hkc
      have hc5 := Kept.cellK hkc hcd
      have e0 := hb5.cell 0
      have e1 := hb5.cell 1
      simp only [List.getElem?_cons_zero, List.getElem?_cons_succ] at e0 e1
      refine hK.out _ _ (fun _ => ⟨e0, e1, hc5⟩) ?_
      clear hK K
      try simp only [Act.put, List.setIfInBounds_toArray, List.set_cons_zero, List.set_cons_succ]
      refine wpAnyZ_one (i := 7) (by kernel_rfl) rfl (fun K hK => ?_)
      go_simp
      refine hK.out _ _ (fun h => absurd rfl h) ?_
      refine wpAnyZ_done (by kernel_rfl) ?_ _
      clear hK K e0 e1 d0 d1 hcd hc5 hcell2
      go_wp2_with fail
      go_roundw
      case rel => exact ⟨pre ++ [p], k, lkL Ls p, rfl, by rw [HW.out]; simp, by have := HPL.out; simp; omega, by rw [List.length_append, List.map_append, HPL.out, z1]; exact own5, hk5⟩
      case measure => simp [lenV]; omega

theorem place_four (c : Cfg) : placeT c ⟨4, 0, 0⟩ = 4 := place_one (by omega) (by omega)

set_option maxRecDepth 8000 in
set_option maxHeartbeats 3200000 in
theorem heldR_ref {c : Cfg} {v l : Value} {mem : List Int} (w : World) (hg : Good c) (h : MapV w c v) (hm : MemV w l mem) (hall : ∀ x ∈ mem, U x) (hlen : mem.length ≤ 20000) :
    Calls Try.prog 16 #[v, l] w fun e w' => ∃ v', e = .returned v' ∧ MemV w' v' (heldL c mem) ∧ Kept w w' := by
  obtain ⟨i0, hi, hz0, hz1, hz2⟩ := info_parts info_u64'
  have hmb := manyI_bound hg
  obtain ⟨N, hN⟩ : ∃ N : Nat, manyI c = N := ⟨(manyI c).toNat, by omega⟩
  have hN2 : N ≤ 2000 := by omega
  obtain ⟨vl0, rfl, hT⟩ := h
  obtain ⟨ao, cap, rfl, _⟩ := hT.ex
  rw [hN]
  have HV : Hid (∀ W, Kept w W → MapV W c (.agg #[.slice ao (allT c).length cap, .int .i64 N])) := fun W k => ⟨_, by rw [hN], hT.kept k⟩
  obtain ⟨mo, mc, hmv⟩ := hm.form
  obtain ⟨ml, hml⟩ : ∃ ml, ml = (mem.map (Value.int .u64)).length := ⟨_, rfl⟩
  rw [← hml] at hmv
  subst hmv
  clear hml
  have HMM : Hid (∀ W, Kept w W → MemV W (.slice mo ml mc) mem) := fun W k => hm.kept k
  have HLD : Hid (heldL c mem = (walkL (lkL (linksL c)) mem N 4).flatMap (tasksL c mem)) := by unfold Hid heldL; rw [lkL_packs hg, hN]; rfl
  have HP11 : Hid (∀ p, placeT c ⟨11, p, 0⟩ = pPack c p 0) := fun p => place_pack hg p 0 (.inl rfl)
  have HP13 : Hid (∀ p j, placeT c ⟨13, p, j⟩ = pTask c p j) := fun p j => place_task hg p j
  have HA : Hid (∀ x ∈ mem, U x) := hall
  clear hT hm hN hall hmb
  generalize (allT c).length = ln at *
  have hA0 := Blk.new w 48 [.slice ao ln cap, .int .i64 N]
  have hkA : Kept w (w.alloc (.cells ([.slice ao ln cap, .int .i64 N] : List Value).toArray 48)) := (Below.refl _ _).alloc (Nat.le_refl _) _
  have z1 : (w.alloc (.cells ([.slice ao ln cap, .int .i64 N] : List Value).toArray 48)).heap.size = w.heap.size + 1 := by simp
  go_enter Try.func16, Try.ntmps16
  go_wp2_with fail
  generalize w.alloc (.cells ([.slice ao ln cap, .int .i64 N] : List Value).toArray 48) = w1 at *
  have hAd := hA0.drew
  have hkd : Kept w w1.drew := hkA.drew
  have d0 := hAd.cell 0
  have d1 := hAd.cell 1
  simp only [List.getElem?_cons_zero, List.getElem?_cons_succ] at d0 d1
  refine wp_region_z 6 (fun w' => w'.cell? ⟨w.heap.size, 0, none⟩ = some (.slice ao ln cap) ∧ w'.cell? ⟨w.heap.size, 1, none⟩ = some (.int .i64 N)) (by kernel_rfl) ?_
  refine wpAnyZ_take (i := 0) (v := ?v0z8) rfl (by kernel_rfl) (by kernel_rfl) (by kernel_rfl) (by kernel_rfl) (fun _ _ _ h => h) (Or.inl ⟨by rfl, ?hy0z8⟩) ⟨d0,d1⟩ ?_
  case hy0z8 => intro w hSw; (try dsimp only at hSw); first | (go_simp; done) | (go_simp; with_reducible rfl)
  try simp only [Act.put, List.setIfInBounds_toArray]
  refine wpAnyZ_take (i := 1) (v := ?v1z8) rfl (by kernel_rfl) (by kernel_rfl) (by kernel_rfl) (by kernel_rfl) (fun _ _ _ h => h) (Or.inl ⟨by rfl, ?hy1z8⟩) ⟨d0,d1⟩ ?_
  case hy1z8 => intro w hSw; (try dsimp only at hSw); first | (go_simp; done) | (go_simp; with_reducible rfl)
  try simp only [Act.put]
  refine wpAnyZ_take (i := 3) (v := ?v3z8) rfl (by kernel_rfl) (by kernel_rfl) (by kernel_rfl) (by kernel_rfl) (fun _ _ _ h => h) (Or.inl ⟨by rfl, ?hy3z8⟩) ⟨d0,d1⟩ ?_
  case hy3z8 => intro w hSw; (try dsimp only at hSw); first | (go_simp; done) | (go_simp; with_reducible rfl)
  try simp only [Act.put]
  refine wpAnyZ_take (i := 4) (v := ?v4z8) rfl (by kernel_rfl) (by kernel_rfl) (by kernel_rfl) (by kernel_rfl) (fun _ _ _ h => h) (Or.inl ⟨by rfl, ?hy4z8⟩) ⟨d0,d1⟩ ?_
  case hy4z8 => intro w hSw; (try dsimp only at hSw); first | (go_simp; done) | (go_simp; with_reducible rfl)
  try simp only [Act.put]
  refine wpAnyZ_one (i := 2) (by kernel_rfl) rfl (fun K hK => ?_)
  go_simp
  go_at_call 56
  refine (stack_ref 4 _ hg (HV.out _ hkd) (place_four c)).mono ?_; rintro e w2 ⟨vk, rfl, hrow, hk2⟩
  have hA2 := hk2.blk hAd
  have hkw2 := Kept.trans' hkd hk2
  have e0 := hA2.cell 0
  have e1 := hA2.cell 1
  simp only [List.getElem?_cons_zero, List.getElem?_cons_succ] at e0 e1
  refine hK.out _ _ (fun _ => ⟨e0, e1⟩) ?_
  clear hK K
  try simp only [Act.put, List.setIfInBounds_toArray, List.set_cons_zero, List.set_cons_succ]
  refine wpAnyZ_one (i := 5) (by kernel_rfl) rfl (fun K hK => ?_)
  go_simp
  go_at_call 55
  refine (walk_ref 4 N _ hrow (HMM.out _ hkw2) HA.out (by omega) hlen).mono ?_; rintro e w3 ⟨vw, rfl, ownw, hk3⟩
  have hA3 := hk3.blk hA2
  have hkw3 := Kept.trans' hkw2 hk3
  have g0 := hA3.cell 0
  have g1 := hA3.cell 1
  simp only [List.getElem?_cons_zero, List.getElem?_cons_succ] at g0 g1
  refine hK.out _ _ (fun _ => ⟨g0, g1⟩) ?_
  clear hK K
  try simp only [Act.put, List.setIfInBounds_toArray, List.set_cons_zero, List.set_cons_succ]
  refine wpAnyZ_one (i := 6) (by kernel_rfl) rfl (fun K hK => ?_)
  go_simp
  refine hK.out _ _ (fun h => absurd rfl h) ?_
  refine wpAnyZ_done (by kernel_rfl) ?_ _
  clear hK K d0 d1 e0 e1 g0 g1 hrow
  have hLn := walkL_len (lkL (linksL c)) mem N 4
  generalize walkL (lkL (linksL c)) mem N 4 = L at *
  obtain ⟨aw, cw, rfl, hcw⟩ := row_nums ownw
  have HLC : Hid (∀ i, i < L.length → ∃ g, aw = some ⟨g, 0, none⟩ ∧ g < w3.heap.size ∧ w3.cell? ⟨g, i, none⟩ = some (.int .i64 (L[i]?.getD 0))) := hcw
  clear hcw ownw hk3 hk2 hkd hkw2 hA2 hAd hA0 hkA
  go_wp2_with fail
  go_loopw [5, 7] (fun v iv wr => ∃ i : Nat, i ≤ L.length ∧ iv = .int .i64 i ∧ wr.ownsRow w3.heap.size 39 1 v (flatL c mem L i).length ((flatL c mem L i).map (Value.int .u64)) ∧ Kept w3 wr) (fun _ iv _ => L.length - (intOf iv).toNat)
  case atStart => exact ⟨0, by omega, rfl, World.ownsRow_nil _ _ _ _, Below.refl _ _⟩
  case round =>
    obtain ⟨i, hiL, rfl, own, hkr⟩ := hrel
    have hkw := Kept.trans' hkw3 hkr
    by_cases hlt : (i : Int) < L.length
    · have hlt' : i < L.length := by omega
      have hi0 : (0 : Int) ≤ i := by omega
      obtain ⟨gw, rfl, hgw, hcell⟩ := HLC.out i hlt'
      have hcell' := Kept.cellK hkr hcell
      have hfs := flatL_succ (c := c) (mem := mem) hlt'
      have hfl := flatL_len c mem L i
      obtain ⟨p, hp⟩ : ∃ p, L[i]?.getD 0 = p := ⟨_, rfl⟩
      rw [hp] at hcell' hfs
      have HFS : Hid _ := hfs
      have HLC2 : Hid (∀ W, Kept w3 W → W.cell? ⟨gw, i, none⟩ = some (.int .i64 p)) := fun W k => by rw [← hp]; exact Kept.cellK k hcell
      clear hfs hcell hp
      obtain ⟨ct, hct⟩ : ∃ ct, mget mem (pPack c p 0) = ct := ⟨_, rfl⟩
      have HCT : Hid (mget mem (pPack c p 0) = ct) := hct
      have hcu : U ct := hct ▸ mget_all HA.out _
      have htl : (tasksL c mem p).length = (min ct 4).toNat := by rw [tasksL_len, hct]
      have HTK : Hid (∀ j, j < (min ct 4).toNat → (tasksL c mem p).take (j + 1) = (tasksL c mem p).take j ++ [mget mem (pTask c p j)]) := fun j hj => tasksL_take (by rw [hct]; exact hj)
      clear hct
      generalize flatL c mem L i = F at *
      obtain ⟨vo, vc, rfl⟩ := own_slice own
      have hAr := hkr.blk hA3
      have hAd := hAr.drew
      have hkd : Kept w wr.drew := hkw.drew
      have hkrd : Kept w3 wr.drew := hkr.drew
      have d0 := hAd.cell 0
      have d1 := hAd.cell 1
      have dc : wr.drew.cell? ⟨gw, i, none⟩ = some (.int .i64 p) := hcell'
      simp only [List.getElem?_cons_zero, List.getElem?_cons_succ] at d0 d1
      have ownd := own.drew
      go_wp2_with fail
      refine wp_region_z 8 (fun w' => w'.cell? ⟨w.heap.size, 0, none⟩ = some (.slice ao ln cap) ∧ w'.cell? ⟨w.heap.size, 1, none⟩ = some (.int .i64 N) ∧ w'.cell? ⟨gw, i, none⟩ = some (.int .i64 p)) (by kernel_rfl) ?_
      refine wpAnyZ_take (i := 0) (v := ?v0z9) rfl (by kernel_rfl) (by kernel_rfl) (by kernel_rfl) (by kernel_rfl) (fun _ _ _ h => h) (Or.inl ⟨by rfl, ?hy0z9⟩) ⟨d0,d1,dc⟩ ?_
      case hy0z9 => intro w hSw; (try dsimp only at hSw); first | (go_simp; done) | (go_simp; with_reducible rfl)
      try simp only [Act.put, List.setIfInBounds_toArray]
      refine wpAnyZ_take (i := 1) (v := ?v1z9) rfl (by kernel_rfl) (by kernel_rfl) (by kernel_rfl) (by kernel_rfl) (fun _ _ _ h => h) (Or.inl ⟨by rfl, ?hy1z9⟩) ⟨d0,d1,dc⟩ ?_
      case hy1z9 => intro w hSw; (try dsimp only at hSw); first | (go_simp; done) | (go_simp; with_reducible rfl)
      try simp only [Act.put]
      refine wpAnyZ_take (i := 2) (v := ?v2z9) rfl (by kernel_rfl) (by kernel_rfl) (by kernel_rfl) (by kernel_rfl) (fun _ _ _ h => h) (Or.inl ⟨by rfl, ?hy2z9⟩) ⟨d0,d1,dc⟩ ?_
      case hy2z9 => intro w hSw; (try dsimp only at hSw); first | (go_simp; done) | (go_simp; with_reducible rfl)
      try simp only [Act.put]
      refine wpAnyZ_take (i := 3) (v := ?v3z9) rfl (by kernel_rfl) (by kernel_rfl) (by kernel_rfl) (by kernel_rfl) (fun _ _ _ h => h) (Or.inl ⟨by rfl, ?hy3z9⟩) ⟨d0,d1,dc⟩ ?_
      case hy3z9 => intro w hSw; (try dsimp only at hSw); first | (go_simp; done) | (go_simp; with_reducible rfl)
      try simp only [Act.put]
      refine wpAnyZ_take (i := 4) (v := ?v4z9) rfl (by kernel_rfl) (by kernel_rfl) (by kernel_rfl) (by kernel_rfl) (fun _ _ _ h => h) (Or.inl ⟨by rfl, ?hy4z9⟩) ⟨d0,d1,dc⟩ ?_
      case hy4z9 => intro w hSw; (try dsimp only at hSw); first | (go_simp; done) | (go_simp; with_reducible rfl)
      try simp only [Act.put]
      refine wpAnyZ_take (i := 5) (v := ?v5z9) rfl (by kernel_rfl) (by kernel_rfl) (by kernel_rfl) (by kernel_rfl) (fun _ _ _ h => h) (Or.inl ⟨by rfl, ?hy5z9⟩) ⟨d0,d1,dc⟩ ?_
      case hy5z9 => intro w hSw; (try dsimp only at hSw); first | (go_simp; done) | (go_simp; with_reducible rfl)
      try simp only [Act.put]
      refine wpAnyZ_one (i := 6) (by kernel_rfl) rfl (fun K hK => ?_)
      go_simp
      go_at_call 58
      refine (at_ref 11 p 0 _ (HV.out _ hkd)).mono ?_; rintro e w5 ⟨rfl, hkc⟩
      rw [HP11.out]
      have hA5 := hkc.blk hAd
      have own5 := ownsRow_kept' ownd hkc
      have hk5 : Kept w w5 := Kept.trans' hkd hkc
      have hkr5 : Kept w3 w5 := Kept.trans' hkrd hkc
      have e0 := hA5.cell 0
      have e1 := hA5.cell 1
      have ec := HLC2.out w5 hkr5
      simp only [List.getElem?_cons_zero, List.getElem?_cons_succ] at e0 e1
      refine hK.out _ _ (fun _ => ⟨e0, e1, ec⟩) ?_
      clear hK K
      try simp only [Act.put, List.setIfInBounds_toArray, List.set_cons_zero, List.set_cons_succ]
      refine wpAnyZ_one (i := 7) (by kernel_rfl) rfl (fun K hK => ?_)
      go_simp
      go_at_call 57
      refine (loadL_ref (pPack c p 0) _ (HMM.out _ hk5)).mono ?_; rintro e wx ⟨rfl, rfl⟩
      rw [HCT.out]
      refine hK.out _ _ (fun _ => ⟨e0, e1, ec⟩) ?_
      clear hK K
      try simp only [Act.put, List.setIfInBounds_toArray, List.set_cons_zero, List.set_cons_succ]
      refine wpAnyZ_one (i := 8) (by kernel_rfl) rfl (fun K hK => ?_)
      go_simp
      refine hK.out _ _ (fun h => absurd rfl h) ?_
      refine wpAnyZ_done (by kernel_rfl) ?_ _
      clear hK K d0 d1 dc e0 e1 ec hcell' hkc hkrd hkd hAd hAr hkw ownd own hkr
      generalize w5 = wq at *
      obtain ⟨m, hm⟩ : ∃ m : Nat, m = (min ct 4).toNat := ⟨_, rfl⟩
      rw [← hm] at htl HTK
      have hm4 : m ≤ 4 := by omega
      have hmc : (m : Int) ≤ ct := by have := hcu.1; omega
      have hm3 : ¬ (m : Int) < 4 ∨ ¬ (m : Int) < ct := by have := hcu.1; omega
      generalize tasksL c mem p = TK at *
      obtain ⟨hcu0, hcu1⟩ := hcu
      clear hm
      go_wp2_with fail
      go_loopw [5, 9] (fun v jv wr => ∃ j : Nat, j ≤ m ∧ jv = .int .i64 j ∧ wr.ownsRow w3.heap.size 39 1 v (F.length + j) ((F ++ TK.take j).map (Value.int .u64)) ∧ Kept w3 wr) (fun _ jv _ => m - (intOf jv).toNat)
      case atStart => exact ⟨0, by omega, rfl, by simpa using own5, hkr5⟩
      case round =>
        obtain ⟨j, hjm, rfl, own, hkr⟩ := hrel
        have hkw := Kept.trans' hkw3 hkr
        have yj : IntKind.u64.wrap (j : Int) = j := by rw [IntKind.wrap_u64]; omega
        by_cases hjl : j < m
        · have h1 : (j : Int) < 4 := by omega
          have h2 : (j : Int) < ct := by omega
          have htk := HTK.out j hjl
          obtain ⟨x, hx⟩ : ∃ x, mget mem (pTask c p j) = x := ⟨_, rfl⟩
          rw [hx] at htk
          have HX : Hid (mget mem (pTask c p j) = x) := hx
          have HTJ : Hid (TK.take (j + 1) = TK.take j ++ [x]) := htk
          clear hx htk
          obtain ⟨X, hX⟩ : ∃ X, F ++ TK.take j = X := ⟨_, rfl⟩
          have HXX : Hid (F ++ TK.take j = X) := hX
          obtain ⟨fl, hfl2⟩ : ∃ fl : Nat, F.length = fl := ⟨_, rfl⟩
          have HFL : Hid (F.length = fl) := hfl2
          rw [hX, hfl2] at own
          rw [hfl2] at hfl
          clear hX hfl2
          obtain ⟨vo, vc, rfl⟩ := own_slice own
          have hAr := hkr.blk hA3
          have hAd := hAr.drew
          have hkd : Kept w wr.drew := hkw.drew
          have hkrd : Kept w3 wr.drew := hkr.drew
          have d0 := hAd.cell 0
          have d1 := hAd.cell 1
          have dc := HLC2.out wr.drew hkrd
          simp only [List.getElem?_cons_zero, List.getElem?_cons_succ] at d0 d1
          have ownd := own.drew
          go_wp2_with fail
          refine wp_region_z 12 (fun w' => w'.cell? ⟨w.heap.size, 0, none⟩ = some (.slice ao ln cap) ∧ w'.cell? ⟨w.heap.size, 1, none⟩ = some (.int .i64 N) ∧ w'.cell? ⟨gw, i, none⟩ = some (.int .i64 p)) (by kernel_rfl) ?_
          refine wpAnyZ_take (i := 0) (v := ?v0z10) rfl (by kernel_rfl) (by kernel_rfl) (by kernel_rfl) (by kernel_rfl) (fun _ _ _ h => h) (Or.inl ⟨by rfl, ?hy0z10⟩) ⟨d0,d1,dc⟩ ?_
          case hy0z10 => intro w hSw; (try dsimp only at hSw); first | (go_simp; done) | (go_simp; with_reducible rfl)
          try simp only [Act.put, List.setIfInBounds_toArray]
          refine wpAnyZ_take (i := 1) (v := ?v1z10) rfl (by kernel_rfl) (by kernel_rfl) (by kernel_rfl) (by kernel_rfl) (fun _ _ _ h => h) (Or.inl ⟨by rfl, ?hy1z10⟩) ⟨d0,d1,dc⟩ ?_
          case hy1z10 => intro w hSw; (try dsimp only at hSw); first | (go_simp; done) | (go_simp; with_reducible rfl)
          try simp only [Act.put]
          refine wpAnyZ_take (i := 2) (v := ?v2z10) rfl (by kernel_rfl) (by kernel_rfl) (by kernel_rfl) (by kernel_rfl) (fun _ _ _ h => h) (Or.inl ⟨by rfl, ?hy2z10⟩) ⟨d0,d1,dc⟩ ?_
          case hy2z10 => intro w hSw; (try dsimp only at hSw); first | (go_simp; done) | (go_simp; with_reducible rfl)
          try simp only [Act.put]
          refine wpAnyZ_take (i := 3) (v := ?v3z10) rfl (by kernel_rfl) (by kernel_rfl) (by kernel_rfl) (by kernel_rfl) (fun _ _ _ h => h) (Or.inl ⟨by rfl, ?hy3z10⟩) ⟨d0,d1,dc⟩ ?_
          case hy3z10 => intro w hSw; (try dsimp only at hSw); first | (go_simp; done) | (go_simp; with_reducible rfl)
          try simp only [Act.put]
          refine wpAnyZ_take (i := 4) (v := ?v4z10) rfl (by kernel_rfl) (by kernel_rfl) (by kernel_rfl) (by kernel_rfl) (fun _ _ _ h => h) (Or.inl ⟨by rfl, ?hy4z10⟩) ⟨d0,d1,dc⟩ ?_
          case hy4z10 => intro w hSw; (try dsimp only at hSw); first | (go_simp; done) | (go_simp; with_reducible rfl)
          try simp only [Act.put]
          refine wpAnyZ_take (i := 5) (v := ?v5z10) rfl (by kernel_rfl) (by kernel_rfl) (by kernel_rfl) (by kernel_rfl) (fun _ _ _ h => h) (Or.inl ⟨by rfl, ?hy5z10⟩) ⟨d0,d1,dc⟩ ?_
          case hy5z10 => intro w hSw; (try dsimp only at hSw); first | (go_simp; done) | (go_simp; with_reducible rfl)
          try simp only [Act.put]
          refine wpAnyZ_take (i := 6) (v := ?v6z10) rfl (by kernel_rfl) (by kernel_rfl) (by kernel_rfl) (by kernel_rfl) (fun _ _ _ h => h) (Or.inl ⟨by rfl, ?hy6z10⟩) ⟨d0,d1,dc⟩ ?_
          case hy6z10 => intro w hSw; (try dsimp only at hSw); first | (go_simp; done) | (go_simp; with_reducible rfl)
          try simp only [Act.put]
          refine wpAnyZ_take (i := 7) (v := ?v7z10) rfl (by kernel_rfl) (by kernel_rfl) (by kernel_rfl) (by kernel_rfl) (fun _ _ _ h => h) (Or.inl ⟨by rfl, ?hy7z10⟩) ⟨d0,d1,dc⟩ ?_
          case hy7z10 => intro w hSw; (try dsimp only at hSw); first | (go_simp; done) | (go_simp; with_reducible rfl)
          try simp only [Act.put]
          refine wpAnyZ_one (i := 8) (by kernel_rfl) rfl (fun K hK => ?_)
          go_simp
          go_at_call 58
          refine (at_ref 13 p j _ (HV.out _ hkd)).mono ?_; rintro e w5 ⟨rfl, hkc⟩
          rw [HP13.out]
          have hA5 := hkc.blk hAd
          have own6 := ownsRow_kept' ownd hkc
          have hk5 : Kept w w5 := Kept.trans' hkd hkc
          have hkr6 : Kept w3 w5 := Kept.trans' hkrd hkc
          have e0 := hA5.cell 0
          have e1 := hA5.cell 1
          have ec := HLC2.out w5 hkr6
          simp only [List.getElem?_cons_zero, List.getElem?_cons_succ] at e0 e1
          refine hK.out _ _ (fun _ => ⟨e0, e1, ec⟩) ?_
          clear hK K
          try simp only [Act.put, List.setIfInBounds_toArray, List.set_cons_zero, List.set_cons_succ]
          refine wpAnyZ_one (i := 9) (by kernel_rfl) rfl (fun K hK => ?_)
          go_simp
          go_at_call 57
          refine (loadL_ref (pTask c p j) _ (HMM.out _ hk5)).mono ?_; rintro e wx ⟨rfl, rfl⟩
          rw [HX.out]
          refine hK.out _ _ (fun _ => ⟨e0, e1, ec⟩) ?_
          clear hK K
          try simp only [Act.put, List.setIfInBounds_toArray, List.set_cons_zero, List.set_cons_succ]
          refine wpAnyZ_one (i := 10) (by kernel_rfl) rfl (fun K hK => ?_)
          go_simp
          have hA6 := hA5.alloc (.cells #[.int .u64 x] 39)
          have b0 := hA6.cell 0
          have b1 := hA6.cell 1
          have bc := HLC2.out (w5.alloc (.cells #[.int .u64 x] 39)) (hkr6.alloc hkr6.size _)
          simp only [List.getElem?_cons_zero, List.getElem?_cons_succ] at b0 b1
          refine hK.out _ _ (fun _ => ⟨b0, b1, bc⟩) ?_
          clear hK K
          try simp only [Act.put, List.setIfInBounds_toArray, List.set_cons_zero, List.set_cons_succ]
          refine wpAnyZ_one (i := 11) (by kernel_rfl) rfl (fun K hK => ?_)
          have z5 := hkr6.size
          refine step_append_lies _ (by rfl) _ _ _ (by rfl) w3.heap.size 39 i0 _ 1 8 Try.underlying25 hi hz0 hz1 hz2 rfl (by omega) (.slice vo (fl + j) vc) (fl + j) (X.map (Value.int .u64)) (by rfl) (own6.alloc _)
            ⟨w5.heap.size, 0, none⟩ 1 1 [.int .u64 x] (by rfl) (by rfl) (World.news_of_block (cs := #[.int .u64 x]) (t := 39) (fr := (0, 0)) (heap_alloc_new w5 _)) (by simp [Value.oneCell'])
            (by omega) (by unfold maxLen; omega) (by omega) (by simp; omega) (w5.heap.size + 1) (by simp) ?_
          intro gt gcap w6 own7 hgrow hat hlt6
          have hkr7 : Kept w3 w6 := (hkr6.alloc hkr6.size _).grown hgrow (by simp; omega) (fun g e => (ownsRow_base own6 g e).1)
          have hA7 := hkr7.blk hA3
          have k0 := hA7.cell 0
          have k1 := hA7.cell 1
          have kc := HLC2.out w6 hkr7
          simp only [List.getElem?_cons_zero, List.getElem?_cons_succ] at k0 k1
          refine hK.out _ _ (fun _ => ⟨k0, k1, kc⟩) ?_
          clear hK K
          try simp only [Act.put, List.setIfInBounds_toArray]
          refine wpAnyZ_one (i := 12) (by kernel_rfl) rfl (fun K hK => ?_)
          go_simp
          refine hK.out _ _ (fun h => absurd rfl h) ?_
          refine wpAnyZ_done (by kernel_rfl) ?_ _
          clear hK K d0 d1 dc e0 e1 ec b0 b1 bc k0 k1 kc
          go_wp2_with fail
          go_roundw
          case rel => exact ⟨j + 1, by omega, by go_num, by rw [HTJ.out, ← List.append_assoc, HXX.out, HFL.out, List.map_append, ← Nat.add_assoc]; exact own7, hkr7⟩
          case measure => simp [intOf]; omega
        · obtain rfl : j = m := by omega
          rw [List.take_of_length_le (by omega)] at own
          have hll : F.length + j = (flatL c mem L (i + 1)).length := by rw [HFS.out, List.length_append, htl]
          rw [hll, ← HFS.out] at own
          have HO : Hid _ := own
          clear own hll
          by_cases h4 : (j : Int) < 4
          · have h2 : ¬ (j : Int) < ct := by omega
            go_wp2_with fail
            go_roundw
            case rel => exact ⟨i + 1, by omega, by go_num, HO.out, hkr⟩
            case measure => simp [intOf]; omega
          · go_wp2_with fail
            go_roundw
            case rel => exact ⟨i + 1, by omega, by go_num, HO.out, hkr⟩
            case measure => simp [intOf]; omega
    · obtain rfl : i = L.length := by omega
      have hF : flatL c mem L L.length = heldL c mem := by rw [HLD.out]; unfold flatL; rw [List.take_length]
      rw [hF] at own
      have HO : Hid _ := own
      clear hF own
      go_wp2_with fail
      go_ret
      exact ⟨_, rfl, Row.ofOwn HO.out, hkw⟩

end Go.Proofs.Ytcejleaedlflaaa
